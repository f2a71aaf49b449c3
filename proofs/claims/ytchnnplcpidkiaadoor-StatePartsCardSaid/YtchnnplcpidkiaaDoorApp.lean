/-
  The contract of state.Apply.
-/
import Derived.Test.YtchnnplcpidkiaaDoorLas
namespace Go.Proofs.YtchnnplcpidkiaaDoor
open Go.RowKit

def insR (rs : List Rp) (r : Rp) : List Rp := rs.take (findR rs r.client) ++ r :: rs.drop (findR rs r.client)
def putR (rs : List Rp) (r : Rp) : List Rp := if hasR rs r.client then rs.set (findR rs r.client) r else insR rs r
def newR (s : St) (q : Req) : Rp := ⟨q.client, q.num, doesC s q, doesV s q⟩
def oldQ (s : St) (q : Req) : Bool := hasR s.reps q.client && decide (q.num ≤ (repOf s.reps (findR s.reps q.client)).num)
def applyS (s : St) (q : Req) : St := if goodQ q = false then s else if oldQ s q then s else { doesS s q with reps := putR s.reps (newR s q) }
def applyR (s : St) (q : Req) : Rp :=
  if goodQ q = false then ⟨q.client, q.num, 1, []⟩
  else if oldQ s q then (if q.num = (repOf s.reps (findR s.reps q.client)).num then lastR s.reps q.client else ⟨q.client, q.num, 8, []⟩)
  else newR s q

theorem applyS_old {s : St} {q : Req} (hg : goodQ q = true) (ho : oldQ s q = true) : applyS s q = s := by rw [applyS, if_neg (by rw [hg]; decide), if_pos ho]
theorem applyR_same {s : St} {q : Req} (hg : goodQ q = true) (ho : oldQ s q = true) (h : q.num = (repOf s.reps (findR s.reps q.client)).num) : applyR s q = lastR s.reps q.client := by
  rw [applyR, if_neg (by rw [hg]; decide), if_pos ho, if_pos h]
theorem applyR_less {s : St} {q : Req} (hg : goodQ q = true) (ho : oldQ s q = true) (h : ¬ q.num = (repOf s.reps (findR s.reps q.client)).num) : applyR s q = ⟨q.client, q.num, 8, []⟩ := by
  rw [applyR, if_neg (by rw [hg]; decide), if_pos ho, if_neg h]
theorem applyS_new {s : St} {q : Req} (hg : goodQ q = true) (ho : oldQ s q = false) : applyS s q = { doesS s q with reps := putR s.reps (newR s q) } := by
  rw [applyS, if_neg (by rw [hg]; decide), if_neg (by rw [ho]; decide)]
theorem applyR_new {s : St} {q : Req} (hg : goodQ q = true) (ho : oldQ s q = false) : applyR s q = newR s q := by
  rw [applyR, if_neg (by rw [hg]; decide), if_neg (by rw [ho]; decide)]
theorem OwnSt.move {w w' : World} {base base' : Nat} {v : Value} {s : St} (h : OwnSt w base' v s) (hb : base ≤ base') (hk : ∀ k, base' ≤ k → w'.heap[k]? = w.heap[k]?)
    (h9 : ∀ (b : Nat) (cs : Array Value) (fz : Nat × Nat), w.heap[b]? = some (Obj.cells cs 9 fz) → w'.heap[b]? = w.heap[b]?) : OwnSt w' base v s := by
  obtain ⟨Ap, cp, Ar, cr, Am, cm, rfl, c1, c2, c3, o1, ⟨els, oe, hl, hrc⟩, o3⟩ := h
  refine ⟨Ap, cp, Ar, cr, Am, cm, rfl, c1, c2, c3, (o1.keep fun k hk' => hk k (o1.base_le k hk').1).lower hb, ⟨els, (oe.keep fun k hk' => hk k (oe.base_le k hk').1).lower hb, hl, fun k e r he hr => ?_⟩, (o3.keep fun k hk' => hk k (o3.base_le k hk').1).lower hb⟩
  obtain ⟨Av, cv, he', hcv, hrow⟩ := hrc k e r he hr
  exact ⟨Av, cv, he', hcv, hrow.keep fun b cs t fz hb ht => by subst ht; exact h9 b cs fz hb⟩
structure AppI (W w : World) (s : St) (q : Req) (Ap Ar Am : Option Addr) (cp cr cm : Nat) (c0 c1 c2 : Int) (v3 : Value) : Prop where
  k0 : W.heap[w.heap.size]? = some (.cells #[.slice Ap s.pairs.length cp, .slice Ar s.reps.length cr, .int .i64 s.epoch, .slice Am s.mbs.length cm] 28 (0, 0))
  k1 : W.heap[w.heap.size + 1]? = some (.cells q.arr 56 (0, 0))
  k2 : W.heap[w.heap.size + 1 + 1]? = some (.cells #[.slice none 0 0, .slice none 0 0, .int .i64 0, .slice none 0 0] 28 (0, 0))
  k3 : W.heap[w.heap.size + 1 + 1 + 1]? = some (.cells #[.int .i64 0, .int .i64 0, .int .i64 0, .slice none 0 0] 36 (0, 0))
  k4 : W.heap[w.heap.size + 1 + 1 + 1 + 1]? = some (.cells #[.int .i64 c0, .int .i64 c1, .int .i64 c2, v3] 36 (0, 0))
  bel : Below w.heap.size w W
theorem AppI.later {W W' w : World} {s : St} {q : Req} {Ap Ar Am : Option Addr} {cp cr cm : Nat} {c0 c1 c2 : Int} {v3 : Value} (h : AppI W w s q Ap Ar Am cp cr cm c0 c1 c2 v3) (hb : Below W.heap.size W W') : AppI W' w s q Ap Ar Am cp cr cm c0 c1 c2 v3 :=
  ⟨blk_later hb h.k0, blk_later hb h.k1, blk_later hb h.k2, blk_later hb h.k3, blk_later hb h.k4, h.bel.trans (hb.mono h.bel.size)⟩

theorem AppI.code {W w : World} {s : St} {q : Req} {Ap Ar Am : Option Addr} {cp cr cm : Nat} {c0 c1 c2 : Int} {v3 : Value} (h : AppI W w s q Ap Ar Am cp cr cm c0 c1 c2 v3) (x : Int) : AppI (W.setCell ⟨w.heap.size + 1 + 1 + 1 + 1, 2, none⟩ (.int .i64 x)) w s q Ap Ar Am cp cr cm c0 c1 x v3 :=
  ⟨blk_set_other h.k0 (by omega) _ _, blk_set_other h.k1 (by omega) _ _, blk_set_other h.k2 (by omega) _ _, blk_set_other h.k3 (by omega) _ _, blk_set h.k4 2 _, h.bel.setCell (p := ⟨_, 2, none⟩) (by show w.heap.size ≤ w.heap.size + 1 + 1 + 1 + 1; omega) _⟩
theorem AppI.rep {W w : World} {s : St} {q : Req} {Ap Ar Am : Option Addr} {cp cr cm : Nat} {c0 c1 c2 : Int} {v3 : Value} (h : AppI W w s q Ap Ar Am cp cr cm c0 c1 c2 v3) (d0 d1 d2 : Int) (v : Value) :
    AppI (W.setRow (w.heap.size + 1 + 1 + 1 + 1) #[.int .i64 d0, .int .i64 d1, .int .i64 d2, v]) w s q Ap Ar Am cp cr cm d0 d1 d2 v :=
  ⟨(setRow_other _ _ _ _ (by omega)).trans h.k0, (setRow_other _ _ _ _ (by omega)).trans h.k1, (setRow_other _ _ _ _ (by omega)).trans h.k2, (setRow_other _ _ _ _ (by omega)).trans h.k3, setRow_heap _ _ _ _ _ _ h.k4, below_setRow h.bel (by omega) _⟩
theorem doesV_len {s : St} {q : Req} (b1 : s.pairs.length ≤ 1000000) (b3 : s.mbs.length ≤ 999999) : (doesV s q).length ≤ 1000000 := by
  have h5 : (scanP s.pairs q.key).length ≤ s.pairs.length := by rw [scanP, List.length_map]; exact List.length_filter_le _ _
  unfold doesV
  (repeat' split) <;> simp <;> omega
theorem RepC.moved {w w' : World} {e : List Value} {r : Rp} (h : RepC w (fun t => t = 9) e r) (h9 : ∀ (b : Nat) (cs : Array Value) (fz : Nat × Nat), w.heap[b]? = some (Obj.cells cs 9 fz) → w'.heap[b]? = w.heap[b]?) : RepC w' (fun t => t = 9) e r := by
  obtain ⟨Av, cv, he', hcv, hrow⟩ := h
  exact ⟨Av, cv, he', hcv, hrow.keep fun b cs t fz hb ht => by subst ht; exact h9 b cs fz hb⟩
/-- An answer goes in between. -/
theorem OwnReps.moved {w' : World} {base : Nat} {v' : Value} {rs : List Rp} {els : List (List Value)} {e : List Value} {r : Rp} {i : Nat} (h2 : els.length = rs.length) (hi : i ≤ rs.length)
    (h3 : ∀ (k : Nat) (e : List Value) (r : Rp), els[k]? = some e → rs[k]? = some r → RepC w' (fun t => t = 9) e r) (hr : RepC w' (fun t => t = 9) e r)
    (ho : Own w' base 36 4 v' (els.take i ++ (e :: els.drop i))) : OwnReps w' base v' (rs.take i ++ (r :: rs.drop i)) := by
  refine ⟨_, ho, by simp [h2], fun k x y hx hy => ?_⟩
  have l1 : (els.take i).length = i := by rw [List.length_take]; omega
  have l2 : (rs.take i).length = i := by rw [List.length_take]; omega
  rcases Nat.lt_trichotomy k i with hk | hk | hk
  · rw [List.getElem?_append_left (by omega), List.getElem?_take, if_pos hk] at hx hy
    exact h3 k x y hx hy
  · subst hk
    rw [List.getElem?_append_right (by omega), l1, Nat.sub_self] at hx
    rw [List.getElem?_append_right (by omega), l2, Nat.sub_self] at hy
    simp only [List.getElem?_cons_zero, Option.some.injEq] at hx hy
    subst hx hy
    exact hr
  · obtain ⟨m, rfl⟩ : ∃ m, k = i + 1 + m := ⟨k - i - 1, by omega⟩
    rw [List.getElem?_append_right (by omega), l1, show i + 1 + m - i = m + 1 from by omega, List.getElem?_cons_succ, List.getElem?_drop] at hx
    rw [List.getElem?_append_right (by omega), l2, show i + 1 + m - i = m + 1 from by omega, List.getElem?_cons_succ, List.getElem?_drop] at hy
    exact h3 _ x y hx hy
theorem OwnReps.keepB {w w' : World} {base : Nat} {v : Value} {rs : List Rp} (h : OwnReps w base v rs) (hk : ∀ k, base ≤ k → w'.heap[k]? = w.heap[k]?)
    (h9 : ∀ (b : Nat) (cs : Array Value) (fz : Nat × Nat), w.heap[b]? = some (Obj.cells cs 9 fz) → w'.heap[b]? = w.heap[b]?) : OwnReps w' base v rs := by
  obtain ⟨els, oe, hl, hrc⟩ := h
  refine ⟨els, oe.keep fun k hk' => hk k (oe.base_le k hk').1, hl, fun k e r he hr => ?_⟩
  obtain ⟨Av, cv, he', hcv, hrow⟩ := hrc k e r he hr
  exact ⟨Av, cv, he', hcv, hrow.keep fun b cs t fz hb ht => by subst ht; exact h9 b cs fz hb⟩
theorem OwnReps.setB {w : World} {base : Nat} {v : Value} {rs : List Rp} (h : OwnReps w base v rs) {g t : Nat} {cs : Array Value} {fz : Nat × Nat} (hb : w.heap[g]? = some (.cells cs t fz)) (hg : g < base) (hT : t ≠ 9) (j : Nat) (u : Value) :
    OwnReps (w.setCell ⟨g, j, none⟩ u) base v rs :=
  h.keepB (fun k hk => Below.heap_setCell w ⟨g, j, none⟩ u k (by show k ≠ g; omega)) fun b cs' fz' hb' => Below.heap_setCell w ⟨g, j, none⟩ u b fun e => by
    have e' : b = g := e
    rw [e', hb] at hb'
    cases hb'
    exact hT rfl
theorem StI.set {w : World} {base gs : Nat} {Ap : Option Addr} {cp : Nat} {Ar : Option Addr} {nr cr : Nat} {Am : Option Addr} {cm : Nat} {s : St} (h : StI w base gs Ap cp Ar nr cr Am cm s) {g t : Nat} {cs : Array Value} {fz : Nat × Nat} (hb : w.heap[g]? = some (.cells cs t fz))
    (hg : g ≠ gs) (h1 : t ≠ 42) (h2 : t ≠ 84) (j : Nat) (u : Value) : StI (w.setCell ⟨g, j, none⟩ u) base gs Ap cp Ar nr cr Am cm s :=
  ⟨blk_set_other h.blk (Ne.symm hg) j u, h.capP, h.capM, h.ownP.set hb h1 j u, h.ownM.set hb h2 j u⟩
theorem AppI.vals {W w : World} {s : St} {q : Req} {Ap Ar Am : Option Addr} {cp cr cm : Nat} {c0 c1 c2 : Int} {v3 : Value} (h : AppI W w s q Ap Ar Am cp cr cm c0 c1 c2 v3) (x : Value) : AppI (W.setCell ⟨w.heap.size + 1 + 1 + 1 + 1, 3, none⟩ x) w s q Ap Ar Am cp cr cm c0 c1 c2 x :=
  ⟨blk_set_other h.k0 (by omega) _ _, blk_set_other h.k1 (by omega) _ _, blk_set_other h.k2 (by omega) _ _, blk_set_other h.k3 (by omega) _ _, blk_set h.k4 3 _, h.bel.setCell (p := ⟨_, 3, none⟩) (by show w.heap.size ≤ w.heap.size + 1 + 1 + 1 + 1; omega) _⟩
theorem AppI.kept {W W' w : World} {s : St} {q : Req} {Ap Ar Am : Option Addr} {cp cr cm : Nat} {c0 c1 c2 : Int} {v3 : Value} {gs : Nat} (h : AppI W w s q Ap Ar Am cp cr cm c0 c1 c2 v3) (hk : Kept W W' gs) (hg : w.heap.size + 1 + 1 + 1 + 1 < gs) (hb : Below w.heap.size W W') :
    AppI W' w s q Ap Ar Am cp cr cm c0 c1 c2 v3 :=
  ⟨hk _ _ h.k0 (by omega) (by intro cs fz h; cases h), hk _ _ h.k1 (by omega) (by intro cs fz h; cases h), hk _ _ h.k2 (by omega) (by intro cs fz h; cases h), hk _ _ h.k3 (by omega) (by intro cs fz h; cases h), hk _ _ h.k4 (by omega) (by intro cs fz h; cases h), h.bel.trans hb⟩
theorem OwnReps.kept {w w' : World} {base : Nat} {v : Value} {rs : List Rp} {gs : Nat} {cs : Array Value} {fz : Nat × Nat} (h : OwnReps w base v rs) (hgs : w.heap[gs]? = some (.cells cs 28 fz)) (hk : Kept w w' gs) : OwnReps w' base v rs := by
  obtain ⟨els, oe, hl, hrc⟩ := h
  refine ⟨els, oe.keep fun k hk' => ?_, hl, fun k e r he hr => ?_⟩
  · obtain ⟨cells, hc⟩ := oe.typed k hk'
    rw [hc]
    exact hk k _ hc (fun e => by rw [e, hgs] at hc; cases hc) (by intro cs fz h; cases h)
  · obtain ⟨Av, cv, he', hcv, hrow⟩ := hrc k e r he hr
    exact ⟨Av, cv, he', hcv, hrow.keep fun b cs t fz hb ht => by
      subst ht
      rw [hb]
      exact hk b _ hb (fun e => by rw [e, hgs] at hb; cases hb) (by intro cs fz h; cases h)⟩
theorem OwnSt.of {W : World} {base : Nat} {s' d : St} {Ap Ar Am : Option Addr} {cp cr cm : Nat} (h1 : s'.pairs = d.pairs) (h2 : s'.epoch = d.epoch) (h3 : s'.mbs = d.mbs) (c1 : d.pairs.length ≤ cp) (c2 : s'.reps.length ≤ cr) (c3 : d.mbs.length ≤ cm)
    (o1 : Own W base 42 2 (.slice Ap d.pairs.length cp) (d.pairs.map Pr.cells)) (o2 : OwnReps W base (.slice Ar s'.reps.length cr) s'.reps) (o3 : Own W base 84 34 (.slice Am d.mbs.length cm) (d.mbs.map Mb.cells)) :
    OwnSt W base (.agg #[.slice Ap d.pairs.length cp, .slice Ar s'.reps.length cr, .int .i64 d.epoch, .slice Am d.mbs.length cm]) s' := by
  refine ⟨Ap, cp, Ar, cr, Am, cm, by rw [h1, h2, h3], by rw [h1]; exact c1, c2, by rw [h3]; exact c3, by rw [h1]; exact o1, o2, by rw [h3]; exact o3⟩
theorem Own.put4 {w : World} {base : Nat} {A : Option Addr} {n c : Nat} {els : List (List Value)} (h : Own w base 36 4 (.slice A n c) els) {i : Nat} (hi : i < els.length) :
    ∃ g cs, A = some ⟨g, 0, none⟩ ∧ w.heap[g]? = some (.cells cs 36 (0, 0)) ∧ base ≤ g ∧ (∀ o, w.frozen? ⟨g, o, none⟩ = false) ∧ (∃ x0 x1 x2 x3, w.cell? ⟨g, i * 4, none⟩ = some x0 ∧ w.cell? ⟨g, i * 4 + 1, none⟩ = some x1 ∧ w.cell? ⟨g, i * 4 + 2, none⟩ = some x2 ∧ w.cell? ⟨g, i * 4 + 3, none⟩ = some x3) ∧
      (∀ v0 v1 v2 v3, Own ((((w.setCell ⟨g, i * 4, none⟩ v0).setCell ⟨g, i * 4 + 1, none⟩ v1).setCell ⟨g, i * 4 + 2, none⟩ v2).setCell ⟨g, i * 4 + 3, none⟩ v3) base 36 4 (.slice A n c) (els.set i [v0, v1, v2, v3])) := by
  obtain ⟨g, cs, rfl, hg, hbg, hf, hc, hs⟩ := h.spot (List.getElem?_eq_getElem hi)
  have hl := h.2 els[i] (List.getElem_mem hi)
  obtain ⟨x0, x1, x2, x3, hx⟩ : ∃ x0 x1 x2 x3, els[i] = [x0, x1, x2, x3] := by
    match hxx : els[i], hl with
    | [x0, x1, x2, x3], _ => exact ⟨x0, x1, x2, x3, rfl⟩
  rw [hx] at hc hs
  refine ⟨g, cs, rfl, hg, hbg, hf, ⟨x0, x1, x2, x3, hc 0 _ rfl, hc 1 _ rfl, hc 2 _ rfl, hc 3 _ rfl⟩, fun v0 v1 v2 v3 => ?_⟩
  have up {w : World} {y : List Value} {els : List (List Value)} (hw : Own w base 36 4 (.slice (some ⟨g, 0, none⟩) n c) els) (hi : i < els.length) (hy : els[i]? = some y) (j : Nat) (v : Value) (hj : j < 4) :
      Own (w.setCell ⟨g, i * 4 + j, none⟩ v) base 36 4 (.slice (some ⟨g, 0, none⟩) n c) (els.set i (y.set j v)) := by
    obtain ⟨g', _, hA, _, _, _, _, hs⟩ := hw.spot hy
    cases hA
    exact hs j v hj
  have s1 := hs 0 v0 (by decide)
  have s2 := up s1 (by simpa using hi) (y := [v0, x1, x2, x3]) (by simp [hi]) 1 v1 (by decide)
  have s3 := up s2 (by simpa using hi) (y := [v0, v1, x2, x3]) (by simp [hi]) 2 v2 (by decide)
  have s4 := up s3 (by simpa using hi) (y := [v0, v1, v2, x3]) (by simp [hi]) 3 v3 (by decide)
  simpa using s4
theorem OwnReps.setAt {w' : World} {base : Nat} {v' : Value} {rs : List Rp} {els : List (List Value)} {e : List Value} {r : Rp} {i : Nat} (h2 : els.length = rs.length)
    (h3 : ∀ (k : Nat) (e : List Value) (r : Rp), els[k]? = some e → rs[k]? = some r → RepC w' (fun t => t = 9) e r) (hr : RepC w' (fun t => t = 9) e r)
    (ho : Own w' base 36 4 v' (els.set i e)) : OwnReps w' base v' (rs.set i r) := by
  refine ⟨_, ho, by simp [h2], fun k x y hx hy => ?_⟩
  rw [List.getElem?_set] at hx hy
  by_cases hk : i = k
  · rw [if_pos hk] at hx hy
    split at hx
    · split at hy
      · cases hx; cases hy; exact hr
      · cases hy
    · cases hx
  · rw [if_neg hk] at hx hy
    exact h3 k x y hx hy
/-- An answer as a value: its texts lie in a block of strings. -/
def RepW (w : World) (v : Value) (r : Rp) : Prop :=
  ∃ Av cv, v = .agg #[.int .i64 r.client, .int .i64 r.num, .int .i64 r.code, .slice Av r.vals.length cv] ∧ r.vals.length ≤ cv ∧ Row w (fun t => t = 9) 1 Av (r.vals.map strC)
def ApplyPost (w : World) (s' : St) (r : Rp) (E : Ending) (w' : World) : Prop :=
  ∃ v vr, E = .returned (.tuple #[v, vr]) ∧ OwnSt w' w.heap.size v s' ∧ RepW w' vr r ∧ Below w.heap.size w w'
theorem grown_below {w W W' : World} {row : Option Nat} (h : Below w.heap.size w W) (hg : W.grownBy W' row) (hr : ∀ k, row = some k → w.heap.size ≤ k) : Below w.heap.size w W' :=
  ⟨hg.os.trans h.os, hg.tape.trans h.tape, hg.output.trans h.output, Nat.le_trans h.size hg.size, fun k hk => (hg.block k (Nat.lt_of_lt_of_le hk h.size) fun e => by have := hr k e.symm; omega).trans (h.block k hk)⟩
theorem AppI.grown {W W' w : World} {s : St} {q : Req} {Ap Ar Am : Option Addr} {cp cr cm : Nat} {c0 c1 c2 : Int} {v3 : Value} (h : AppI W w s q Ap Ar Am cp cr cm c0 c1 c2 v3) {row : Option Nat} (hg : W.grownBy W' row) (hr : ∀ k, row = some k → w.heap.size + 1 + 1 + 1 + 1 < k) :
    AppI W' w s q Ap Ar Am cp cr cm c0 c1 c2 v3 :=
  ⟨blk_grown hg h.k0 (fun e => by have := hr _ e; omega), blk_grown hg h.k1 (fun e => by have := hr _ e; omega), blk_grown hg h.k2 (fun e => by have := hr _ e; omega), blk_grown hg h.k3 (fun e => by have := hr _ e; omega), blk_grown hg h.k4 (fun e => by have := hr _ e; omega),
    grown_below h.bel hg fun k e => by have := hr k e; omega⟩
theorem AppI.setFar {W w : World} {s : St} {q : Req} {Ap Ar Am : Option Addr} {cp cr cm : Nat} {c0 c1 c2 : Int} {v3 : Value} (h : AppI W w s q Ap Ar Am cp cr cm c0 c1 c2 v3) {g : Nat} (hg : w.heap.size + 1 + 1 + 1 + 1 < g) (j : Nat) (u : Value) :
    AppI (W.setCell ⟨g, j, none⟩ u) w s q Ap Ar Am cp cr cm c0 c1 c2 v3 :=
  ⟨blk_set_other h.k0 (by omega) _ _, blk_set_other h.k1 (by omega) _ _, blk_set_other h.k2 (by omega) _ _, blk_set_other h.k3 (by omega) _ _, blk_set_other h.k4 (by omega) _ _, h.bel.setCell (p := ⟨g, j, none⟩) (by show w.heap.size ≤ g; omega) _⟩
theorem StI.grown {w w' : World} {base gs : Nat} {Ap : Option Addr} {cp : Nat} {Ar : Option Addr} {nr cr : Nat} {Am : Option Addr} {cm : Nat} {s : St} (h : StI w base gs Ap cp Ar nr cr Am cm s) {row : Option Nat} (hg : w.grownBy w' row)
    (hr : ∀ k, row = some k → ∃ cs, w.heap[k]? = some (Obj.cells cs 36 (0, 0))) : StI w' base gs Ap cp Ar nr cr Am cm s :=
  ⟨blk_grown hg h.blk (fun e => by obtain ⟨cs, hc⟩ := hr _ e; rw [h.blk] at hc; cases hc),
    h.capP, h.capM, h.ownP.grown hg fun k e => by obtain ⟨cs, hc⟩ := hr k e; exact ⟨cs, 36, _, hc, by decide⟩, h.ownM.grown hg fun k e => by obtain ⟨cs, hc⟩ := hr k e; exact ⟨cs, 36, _, hc, by decide⟩⟩

theorem Req.facts {w : World} {b : Nat} {q : Req} {t : TypeId} {fz : Nat × Nat} (h : w.heap[b]? = some (.cells q.arr t fz)) :
    w.cell? ⟨b, 0, none⟩ = some (.int .i64 q.client) ∧ w.cell? ⟨b, 1, none⟩ = some (.int .i64 q.num) ∧ w.rangeAt b 0 q.cells ∧ w.rangeAt b 2 q.opC :=
  ⟨by rw [cell_of_row w b _ _ t _ h]; rfl, by rw [cell_of_row w b _ _ t _ h]; rfl, fun j v hv => by rw [cell_of_row w b _ _ t _ h, Nat.zero_add]; simpa [Req.arr] using hv, Req.opRange h⟩

set_option maxHeartbeats 2000000 in
set_option maxRecDepth 100000 in
theorem Apply_any (Ap Ar Am : Option Addr) (cp cr cm : Nat) (s : St) (q : Req) (w : World) (T1 T2 T3 T4 : TypeId → Prop)
    (hp : Row w T1 2 Ap (s.pairs.map Pr.cells)) (hr : Reps w T2 T3 Ar s.reps) (hm : Row w T4 34 Am (s.mbs.map Mb.cells))
    (b1 : s.pairs.length ≤ 1000000) (b2 : s.reps.length ≤ 1000000) (b3 : s.mbs.length ≤ 999999) (b4 : ∀ k, (repOf s.reps k).vals.length ≤ 1000000)
    (ht : Tab w.heap.size w) (he : -9223372036854775808 ≤ s.epoch ∧ s.epoch ≤ 9223372036854775807)
    (hid : ∀ k, -9223372036854775808 ≤ (mbOf s.mbs k).id ∧ (mbOf s.mbs k).id ≤ 9223372036854775807) :
    Calls Tryd.prog 18 #[.agg #[.slice Ap s.pairs.length cp, .slice Ar s.reps.length cr, .int .i64 s.epoch, .slice Am s.mbs.length cm], .agg q.arr] w (ApplyPost w (applyS s q) (applyR s q)) := by
  have HP := Lib.hid hp
  have HR := Lib.hid hr
  have HM := Lib.hid hm
  have HB4 := Lib.hid b4
  have HT := Lib.hid ht
  have HE := Lib.hid he
  have HD := Lib.hid hid
  clear hp hr hm b4 ht he hid
  have h0 := Lib.hid (show AppI (((((w.alloc (.cells #[.slice Ap s.pairs.length cp, .slice Ar s.reps.length cr, .int .i64 s.epoch, .slice Am s.mbs.length cm] 28)).alloc (.cells q.arr 56)).alloc (.cells #[.slice none 0 0, .slice none 0 0, .int .i64 0, .slice none 0 0] 28)).alloc (.cells #[.int .i64 0, .int .i64 0, .int .i64 0, .slice none 0 0] 36)).alloc (.cells #[.int .i64 q.client, .int .i64 q.num, .int .i64 0, .slice none 0 0] 36)) w s q Ap Ar Am cp cr cm q.client q.num 0 (.slice none 0 0) from
    ⟨at5_0 _ _ _ _ _ _, at5_1 _ _ _ _ _ _, at5_2 _ _ _ _ _ _, at5_3 _ _ _ _ _ _, at5_4 _ _ _ _ _ _, ((((Below.refl _ _).alloc (Nat.le_refl _) _).alloc (by simp) _).alloc (by simp; omega) _ |>.alloc (by simp; omega) _).alloc (by simp; omega) _⟩)
  obtain ⟨x0, x1, x2, _⟩ := Req.facts h0.out.k1
  go_enter Tryd.func18, Tryd.ntmps18
  go_wp2_with (first
    | (with_reducible refine loadM rfl 56 _ rfl (w.heap.size + 1) 0 rfl 42 _ (Req.len _) _ x2 Tryd.underlying56 rfl size56 q.arr rfl ?_))
  refine (goodQ_any q _).mono ?_
  rintro e w1 ⟨rfl, hb1⟩
  have H1 := Lib.hid (h0.out.later hb1)
  clear hb1 h0 x0 x1 x2
  obtain ⟨a0, a1, a2, a3, _⟩ := four H1.out.k0
  obtain ⟨x0, x1, x2, x3⟩ := Req.facts H1.out.k1
  obtain ⟨t0, t1, t2, t3, t4⟩ := four H1.out.k2
  obtain ⟨u0, u1, u2, u3, u4⟩ := four H1.out.k3
  obtain ⟨v0, v1, v2, v3, v4⟩ := four H1.out.k4
  have z4 : w.heap.size + 1 + 1 + 1 + 1 < w1.heap.size := heap_lt H1.out.k4
  have z3 : w.heap.size + 1 + 1 + 1 < w1.heap.size := by omega
  have z2 : w.heap.size + 1 + 1 < w1.heap.size := by omega
  have z1 : w.heap.size + 1 < w1.heap.size := by omega
  have z0 : w.heap.size < w1.heap.size := by omega
  cases hgq : goodQ q
  · have hgq := Lib.hid hgq
    go_wp2_with fail
    have H2 := Lib.hid (H1.out.code 1)
    clear a0 a1 a2 a3 x0 x1 x2 x3 t0 t1 t2 t3 t4 u0 u1 u2 u3 u4 v0 v1 v2 v3 v4 z4 z3 z2 z1 z0
    obtain ⟨a0, a1, a2, a3, _⟩ := four H2.out.k0
    obtain ⟨v0, v1, v2, v3, v4⟩ := four H2.out.k4
    have y1 : ¬ w.heap.size = w.heap.size + 1 + 1 := by omega
    have y2 : ¬ w.heap.size = w.heap.size + 1 + 1 + 1 := by omega
    have y3 : ¬ w.heap.size + 1 + 1 = w.heap.size := by omega
    have y4 : ¬ w.heap.size + 1 + 1 + 1 = w.heap.size := by omega
    have y5 : ¬ w.heap.size + 1 + 1 = w.heap.size + 1 + 1 + 1 + 1 := by omega
    have y6 : ¬ w.heap.size + 1 + 1 + 1 = w.heap.size + 1 + 1 + 1 + 1 := by omega
    have HPD := Lib.hid (HP.out.below H2.out.bel.drew)
    have HRD := Lib.hid (HR.out.below H2.out.bel.drew)
    have HMD := Lib.hid (HM.out.below H2.out.bel.drew)
    have HD0 := Lib.hid (show Below (w1.setCell ⟨w.heap.size + 1 + 1 + 1 + 1, 2, none⟩ (.int .i64 1)).heap.size (w1.setCell ⟨w.heap.size + 1 + 1 + 1 + 1, 2, none⟩ (.int .i64 1)) (w1.setCell ⟨w.heap.size + 1 + 1 + 1 + 1, 2, none⟩ (.int .i64 1)).drew from (Below.refl _ _).drew)
    go_region_held3 (fun W => W.cell? ⟨w.heap.size, 0, none⟩ = some (.slice Ap s.pairs.length cp) ∧ W.cell? ⟨w.heap.size, 1, none⟩ = some (.slice Ar s.reps.length cr) ∧ W.cell? ⟨w.heap.size, 2, none⟩ = some (.int .i64 s.epoch) ∧ W.cell? ⟨w.heap.size, 3, none⟩ = some (.slice Am s.mbs.length cm) ∧
        W.cell? ⟨w.heap.size + 1 + 1 + 1 + 1, 0, none⟩ = some (.int .i64 q.client) ∧ W.cell? ⟨w.heap.size + 1 + 1 + 1 + 1, 1, none⟩ = some (.int .i64 q.num) ∧ W.cell? ⟨w.heap.size + 1 + 1 + 1 + 1, 2, none⟩ = some (.int .i64 1) ∧ W.cell? ⟨w.heap.size + 1 + 1 + 1 + 1, 3, none⟩ = some (.slice none 0 0)) (go_keep)
      (first
        | (go_at_call 34; refine (copied_any Ap Ar Am cp cr cm s _ T1 T2 T3 T4 HPD.out HRD.out HMD.out b1 b2 (by omega) HB4.out).mono ?_; rintro e w2 ⟨v, rfl, ⟨Ap2, cp2, Ar2, cr2, Am2, cm2, rfl, hos⟩, hb2⟩; have HOS := Lib.hid (show OwnSt w2 _ (.agg #[.slice Ap2 s.pairs.length cp2, .slice Ar2 s.reps.length cr2, .int .i64 s.epoch, .slice Am2 s.mbs.length cm2]) s from ⟨_, _, _, _, _, _, rfl, hos⟩); have HFX := Lib.hid (H2.out.later (HD0.out.trans hb2));  have HSZ := Lib.hid (show w.heap.size ≤ (w1.setCell ⟨w.heap.size + 1 + 1 + 1 + 1, 2, none⟩ (.int .i64 1)).drew.heap.size from H2.out.bel.size); have a0 := cell_later hb2 a0; have a1 := cell_later hb2 a1; have a2 := cell_later hb2 a2; have a3 := cell_later hb2 a3; have v0 := cell_later hb2 v0; have v1 := cell_later hb2 v1; have v2 := cell_later hb2 v2; have v3 := cell_later hb2 v3; obtain ⟨t0, t1, t2, t3, t4⟩ := four HFX.out.k2; obtain ⟨u0, u1, u2, u3, u4⟩ := four HFX.out.k3; clear hb2 hos))
    go_wp2_with fail
    rw [store4 HFX.out.k2]
    have k3' : (w2.setRow (w.heap.size + 1 + 1) #[.slice Ap2 s.pairs.length cp2, .slice Ar2 s.reps.length cr2, .int .i64 s.epoch, .slice Am2 s.mbs.length cm2]).heap[w.heap.size + 1 + 1 + 1]? = _ := (setRow_other _ _ _ _ (by omega)).trans HFX.out.k3
    rw [store4 k3']
    have hgB := setRow_heap _ (w.heap.size + 1 + 1 + 1) _ #[.int .i64 q.client, .int .i64 q.num, .int .i64 1, .slice none 0 0] 36 (0, 0) k3'
    have hgA := (setRow_other _ (w.heap.size + 1 + 1 + 1) (w.heap.size + 1 + 1) #[.int .i64 q.client, .int .i64 q.num, .int .i64 1, .slice none 0 0] (by omega)).trans (setRow_heap w2 (w.heap.size + 1 + 1) _ #[.slice Ap2 s.pairs.length cp2, .slice Ar2 s.reps.length cr2, .int .i64 s.epoch, .slice Am2 s.mbs.length cm2] 28 (0, 0) HFX.out.k2)
    refine bodyPost_ret (res_cc rfl _ _ (w.heap.size + 1 + 1) (w.heap.size + 1 + 1 + 1) 28 36 _ _ (0, 0) (0, 0) _ _ rfl hgA Tryd.underlying28 rfl size28 rfl hgB Tryd.underlying36 rfl size36) rfl ?_
    have hkk : ∀ k, k ≠ w.heap.size + 1 + 1 → k ≠ w.heap.size + 1 + 1 + 1 → ((w2.setRow (w.heap.size + 1 + 1) #[.slice Ap2 s.pairs.length cp2, .slice Ar2 s.reps.length cr2, .int .i64 s.epoch, .slice Am2 s.mbs.length cm2]).setRow (w.heap.size + 1 + 1 + 1) #[.int .i64 q.client, .int .i64 q.num, .int .i64 1, .slice none 0 0]).heap[k]? = w2.heap[k]? := fun k h1 h2 => (setRow_other _ _ _ _ h2).trans (setRow_other _ _ _ _ h1)
    have hz := heap_lt HFX.out.k4
    have h9 : ∀ (b : Nat) (cs : Array Value) (fz : Nat × Nat), w2.heap[b]? = some (Obj.cells cs 9 fz) → b ≠ w.heap.size + 1 + 1 ∧ b ≠ w.heap.size + 1 + 1 + 1 := fun b cs fz hb =>
      ⟨fun e => (by rw [e, HFX.out.k2] at hb; cases hb), fun e => (by rw [e, HFX.out.k3] at hb; cases hb)⟩
    have HZ := Lib.hid (show w.heap.size + 1 + 1 + 1 < (w1.setCell ⟨w.heap.size + 1 + 1 + 1 + 1, 2, none⟩ (.int .i64 1)).drew.heap.size from heap_lt H2.out.k3)
    have hzz := HZ.out
    rw [applyS, applyR, if_pos hgq.out, if_pos hgq.out]
    exact ⟨_, _, rfl, HOS.out.move HSZ.out (fun k hk => hkk k (by omega) (by omega)) (fun b cs fz hb => hkk b (h9 b cs fz hb).1 (h9 b cs fz hb).2), ⟨none, 0, rfl, Nat.le_refl _, Row.nil _ _ _ _⟩,
      below_setRow (below_setRow HFX.out.bel (by omega) _) (by omega) _⟩
  have hgq := Lib.hid hgq
  go_wp2_with fail
  refine (last_any T2 T3 Ar s.reps cr _ _ _ q.client _ (HR.out.below H1.out.bel) b2).mono ?_
  rintro e w2 ⟨rfl, hb2⟩
  have H2 := Lib.hid (H1.out.later hb2)
  clear hb2
  clear a0 a1 a2 a3 x0 x1 x2 x3 t0 t1 t2 t3 t4 u0 u1 u2 u3 u4 v0 v1 v2 v3 v4 z4 z3 z2 z1 z0
  obtain ⟨a0, a1, a2, a3, _⟩ := four H2.out.k0
  obtain ⟨x0, x1, x2, x3⟩ := Req.facts H2.out.k1
  obtain ⟨t0, t1, t2, t3, t4⟩ := four H2.out.k2
  obtain ⟨u0, u1, u2, u3, u4⟩ := four H2.out.k3
  obtain ⟨v0, v1, v2, v3, v4⟩ := four H2.out.k4
  have z4 : w.heap.size + 1 + 1 + 1 + 1 < w2.heap.size := heap_lt H2.out.k4
  have z3 : w.heap.size + 1 + 1 + 1 < w2.heap.size := by omega
  have z2 : w.heap.size + 1 + 1 < w2.heap.size := by omega
  have z1 : w.heap.size + 1 < w2.heap.size := by omega
  have z0 : w.heap.size < w2.heap.size := by omega
  cases hh : hasR s.reps q.client
  · have hh := Lib.hid hh
    go_wp2_with fail
    refine region_wd _ (by kernel_rfl) (by kernel_rfl) ?_
    repeat (go_big_quiet_step (fail))
    refine wpQuiet_nil ?_
    rintro _ ⟨i, rfl⟩
    have H3 := Lib.hid (H2.out.later i.be)
    obtain ⟨w3, hwn⟩ : ∃ x, x = i.wd := ⟨_, rfl⟩
    rw [← hwn] at H3 ⊢
    clear hwn i
    clear a0 a1 a2 a3 x0 x1 x2 x3 t0 t1 t2 t3 t4 u0 u1 u2 u3 u4 v0 v1 v2 v3 v4 z4 z3 z2 z1 z0
    obtain ⟨a0, a1, a2, a3, _⟩ := four H3.out.k0
    obtain ⟨x0, x1, x2, x3⟩ := Req.facts H3.out.k1
    obtain ⟨t0, t1, t2, t3, t4⟩ := four H3.out.k2
    obtain ⟨u0, u1, u2, u3, u4⟩ := four H3.out.k3
    obtain ⟨v0, v1, v2, v3, v4⟩ := four H3.out.k4
    have z4 : w.heap.size + 1 + 1 + 1 + 1 < w3.heap.size := heap_lt H3.out.k4
    have z3 : w.heap.size + 1 + 1 + 1 < w3.heap.size := by omega
    have z2 : w.heap.size + 1 + 1 < w3.heap.size := by omega
    have z1 : w.heap.size + 1 < w3.heap.size := by omega
    have z0 : w.heap.size < w3.heap.size := by omega
    have hold := Lib.hid (show oldQ s q = false from by rw [oldQ, hh.out, Bool.false_and])
    go_wp2_with fail
    refine (copied_any Ap Ar Am cp cr cm s _ T1 T2 T3 T4 (HP.out.below H3.out.bel) (HR.out.below H3.out.bel) (HM.out.below H3.out.bel) b1 b2 (by omega) HB4.out).mono ?_
    rintro e w4 ⟨v, rfl, ⟨Ap2, cp2, Ar2, cr2, Am2, cm2, rfl, c1, c2, c3, oP, oR, oM⟩, hb4⟩
    have H4 := Lib.hid (H3.out.later hb4)
    have hwb : w.heap.size ≤ w3.heap.size := H3.out.bel.size
    have OP := Lib.hid (oP.lower hwb)
    have OR := Lib.hid oR
    have OM := Lib.hid (oM.lower hwb)
    have hwb34 := Lib.hid hb4.size
    clear oP oR oM hb4
    clear a0 a1 a2 a3 x0 x1 x2 x3 t0 t1 t2 t3 t4 u0 u1 u2 u3 u4 v0 v1 v2 v3 v4 z4 z3 z2 z1 z0
    obtain ⟨a0, a1, a2, a3, _⟩ := four H4.out.k0
    obtain ⟨x0, x1, x2, x3⟩ := Req.facts H4.out.k1
    obtain ⟨t0, t1, t2, t3, t4⟩ := four H4.out.k2
    obtain ⟨u0, u1, u2, u3, u4⟩ := four H4.out.k3
    obtain ⟨v0, v1, v2, v3, v4⟩ := four H4.out.k4
    have z4 : w.heap.size + 1 + 1 + 1 + 1 < w4.heap.size := heap_lt H4.out.k4
    have z3 : w.heap.size + 1 + 1 + 1 < w4.heap.size := by omega
    have z2 : w.heap.size + 1 + 1 < w4.heap.size := by omega
    have z1 : w.heap.size + 1 < w4.heap.size := by omega
    have z0 : w.heap.size < w4.heap.size := by omega
    have hX := Lib.hid (show Below w4.heap.size w4 (w4.alloc (.cells #[.slice Ap2 s.pairs.length cp2, .slice Ar2 s.reps.length cr2, .int .i64 s.epoch, .slice Am2 s.mbs.length cm2] 28)) from (Below.refl _ _).alloc (Nat.le_refl _) _)
    have H5 := Lib.hid (H4.out.later hX.out)
    have HI5 := Lib.hid (show StI (w4.alloc (.cells #[.slice Ap2 s.pairs.length cp2, .slice Ar2 s.reps.length cr2, .int .i64 s.epoch, .slice Am2 s.mbs.length cm2] 28)) w.heap.size w4.heap.size Ap2 cp2 Ar2 s.reps.length cr2 Am2 cm2 s from
      ⟨heap_alloc_last _ _, c1, c3, OP.out.below hX.out, OM.out.below hX.out⟩)
    have OR5 := Lib.hid (OR.out.below hX.out)
    obtain ⟨_, _, _, y3⟩ := Req.facts H5.out.k1
    go_wp2_with (first
      | (with_reducible refine loadM rfl 54 _ rfl (w.heap.size + 1) 2 rfl 40 _ (Req.opLen _) _ y3 Tryd.underlying54 rfl size54 q.opA rfl ?_))
    refine (does_any w.heap.size w4.heap.size Ap2 cp2 Ar2 s.reps.length cr2 Am2 cm2 s q _ HI5.out b1 (by omega) (Nat.le_of_lt z0) (by rw [World.size_alloc]; omega) (HT.out.below H5.out.bel) HE.out HD.out).mono ?_
    rintro e w6 ⟨Av, cv, rfl, hcv, hrv, ⟨Ap6, cp6, Am6, cm6, hst⟩, hb6, hkept⟩
    have HRV := Lib.hid hrv
    have HST := Lib.hid hst
    have HB6 := Lib.hid hb6
    have HK6 := Lib.hid hkept
    clear hrv hst hb6 hkept y3
    have H6 := Lib.hid (H5.out.kept HK6.out z4 HB6.out)
    have OR6 := Lib.hid (OR5.out.kept HI5.out.blk HK6.out)
    clear a0 a1 a2 a3 x0 x1 x2 x3 t0 t1 t2 t3 t4 u0 u1 u2 u3 u4 v0 v1 v2 v3 v4 z4 z3 z2 z1 z0
    obtain ⟨a0, a1, a2, a3, _⟩ := four H6.out.k0
    obtain ⟨x0, x1, x2, x3⟩ := Req.facts H6.out.k1
    obtain ⟨t0, t1, t2, t3, t4⟩ := four H6.out.k2
    obtain ⟨u0, u1, u2, u3, u4⟩ := four H6.out.k3
    obtain ⟨v0, v1, v2, v3, v4⟩ := four H6.out.k4
    have z4 : w.heap.size + 1 + 1 + 1 + 1 < w6.heap.size := heap_lt H6.out.k4
    have z3 : w.heap.size + 1 + 1 + 1 < w6.heap.size := by omega
    have z2 : w.heap.size + 1 + 1 < w6.heap.size := by omega
    have z1 : w.heap.size + 1 < w6.heap.size := by omega
    have z0 : w.heap.size < w6.heap.size := by omega
    obtain ⟨s0, s1, s2, s3, s4⟩ := four HST.out.blk
    have y0 : ¬ w.heap.size + 1 + 1 + 1 + 1 = w4.heap.size := by have := heap_lt H4.out.k4; omega
    have y1 : ¬ w4.heap.size = w.heap.size + 1 + 1 + 1 + 1 := by have := heap_lt H4.out.k4; omega
    go_wp2_with fail
    have H7a := Lib.hid (H6.out.code (doesC s q))
    have H7 := Lib.hid (H7a.out.vals (.slice Av (doesV s q).length cv))
    have HR7 := Lib.hid ((HRV.out.set H6.out.k4 (by decide) 2 (.int .i64 (doesC s q))).set H7a.out.k4 (by decide) 3 (.slice Av (doesV s q).length cv))
    have hlt4 : w.heap.size + 1 + 1 + 1 + 1 < w3.heap.size := heap_lt H3.out.k4
    have HST7 := Lib.hid ((HST.out.set H6.out.k4 y0 (by decide) (by decide) 2 (.int .i64 (doesC s q))).set H7a.out.k4 y0 (by decide) (by decide) 3 (.slice Av (doesV s q).length cv))
    have OR7 := Lib.hid ((OR6.out.setB H6.out.k4 hlt4 (by decide) 2 (.int .i64 (doesC s q))).setB H7a.out.k4 hlt4 (by decide) 3 (.slice Av (doesV s q).length cv))
    have hdl := doesV_len (s := s) (q := q) b1 b3
    refine (cloneS_any (fun t => t = 9) Av (doesV s q).length cv ((doesV s q).map strC) _ (by simp) (HR7.out.below ((Below.refl _ _).alloc (Nat.le_refl _) _)) st_len st_one (by simpa using hdl)).mono ?_
    rintro e w8 ⟨Av8, cv8, rfl, hcv8, ho8, hb8⟩
    rw [List.length_map] at hcv8 ho8
    rw [List.length_map]
    have W7s : ((w6.setCell ⟨w.heap.size + 1 + 1 + 1 + 1, 2, none⟩ (.int .i64 (doesC s q))).setCell ⟨w.heap.size + 1 + 1 + 1 + 1, 3, none⟩ (.slice Av (doesV s q).length cv)).heap.size = w6.heap.size := by simp
    obtain ⟨W7, hW7⟩ : ∃ W7, W7 = (w6.setCell ⟨w.heap.size + 1 + 1 + 1 + 1, 2, none⟩ (.int .i64 (doesC s q))).setCell ⟨w.heap.size + 1 + 1 + 1 + 1, 3, none⟩ (.slice Av (doesV s q).length cv) := ⟨_, rfl⟩
    rw [← hW7] at H7 HR7 HST7 OR7 W7s ho8 hb8
    have hA8 := Lib.hid (show Below W7.heap.size W7 w8 from ((Below.refl _ _).alloc (Nat.le_refl _) _).trans (hb8.mono (by rw [World.size_alloc]; omega)))
    have H8 := Lib.hid (H7.out.later hA8.out)
    have HST8 := Lib.hid (HST7.out.below hA8.out)
    have OR8 := Lib.hid (OR7.out.below hA8.out)
    have HO8 := Lib.hid (ho8.lower (base' := w.heap.size) (by rw [World.size_alloc]; have := H7.out.bel.size; omega))
    have HR8 := Lib.hid (HR7.out.below hA8.out)
    have kE := Lib.hid (blk_later hb8 (heap_alloc_last W7 _))
    clear ho8 hb8
    rw [W7s] at kE
    clear a0 a1 a2 a3 x0 x1 x2 x3 t0 t1 t2 t3 t4 u0 u1 u2 u3 u4 v0 v1 v2 v3 v4 z4 z3 z2 z1 z0
    clear y0 y1 s0 s1 s2 s3 s4
    obtain ⟨a0, a1, a2, a3, _⟩ := four H8.out.k0
    obtain ⟨x0, x1, x2, x3⟩ := Req.facts H8.out.k1
    obtain ⟨t0, t1, t2, t3, t4⟩ := four H8.out.k2
    obtain ⟨u0, u1, u2, u3, u4⟩ := four H8.out.k3
    obtain ⟨v0, v1, v2, v3, v4⟩ := four H8.out.k4
    have z4 : w.heap.size + 1 + 1 + 1 + 1 < w8.heap.size := heap_lt H8.out.k4
    have z3 : w.heap.size + 1 + 1 + 1 < w8.heap.size := by omega
    have z2 : w.heap.size + 1 + 1 < w8.heap.size := by omega
    have z1 : w.heap.size + 1 < w8.heap.size := by omega
    have z0 : w.heap.size < w8.heap.size := by omega
    obtain ⟨s0, s1, s2, s3, s4⟩ := four HST8.out.blk
    obtain ⟨n0, n1, n2, n3, n4⟩ := four kE.out
    have ze : w6.heap.size < w8.heap.size := heap_lt kE.out
    go_wp2_with fail
    have hK : ∀ k, (Value.slice Ar2 s.reps.length cr2).ownBlock = some k → w3.heap.size ≤ k ∧ k < w4.heap.size := fun k hk => by
      obtain ⟨els, ho, _⟩ := OR.out
      exact ho.base_le k hk
    have z33 : w3.heap.size ≤ w4.heap.size := hwb34.out
    have z44 : w.heap.size + 1 + 1 + 1 + 1 < w4.heap.size := heap_lt H4.out.k4
    have z46 : w4.heap.size < w6.heap.size := heap_lt HST.out.blk
    have z3' : w.heap.size + 1 + 1 + 1 + 1 < w3.heap.size := heap_lt H3.out.k4
    have z36 : w.heap.size + 1 + 1 + 1 + 1 < w6.heap.size := heap_lt H6.out.k4
    obtain ⟨els, oE, lE, rE⟩ := OR8.out
    have OE9 := Lib.hid (show Own (w8.setCell ⟨w6.heap.size, 3, none⟩ (.slice Av8 (doesV s q).length cv8)) w3.heap.size 36 4 (.slice Ar2 s.reps.length cr2) els from
      oE.keep fun k hk => Below.heap_setCell _ ⟨w6.heap.size, 3, none⟩ _ k (by have := (hK k hk).2; show k ≠ w6.heap.size; omega))
    have RE9 := Lib.hid (show ∀ (k : Nat) (e : List Value) (r : Rp), els[k]? = some e → s.reps[k]? = some r → RepC (w8.setCell ⟨w6.heap.size, 3, none⟩ (.slice Av8 (doesV s q).length cv8)) (fun t => t = 9) e r from
      fun k e r he hr => (rE k e r he hr).set kE.out (by decide) _ _)
    have H9 := Lib.hid (H8.out.setFar (g := w6.heap.size) (by omega) 3 (.slice Av8 (doesV s q).length cv8))
    have ST9 := Lib.hid (HST8.out.set kE.out (by omega) (by decide) (by decide) 3 (.slice Av8 (doesV s q).length cv8))
    have V9 := Lib.hid (HR8.out.set kE.out (by decide) 3 (.slice Av8 (doesV s q).length cv8))
    have O9 := Lib.hid (HO8.out.rowOf.set kE.out (by decide) 3 (.slice Av8 (doesV s q).length cv8))
    have kE9 := Lib.hid (blk_set kE.out 3 (.slice Av8 (doesV s q).length cv8))
    have W9s : (w8.setCell ⟨w6.heap.size, 3, none⟩ (.slice Av8 (doesV s q).length cv8)).heap.size = w8.heap.size := by simp
    obtain ⟨w9, hw9⟩ : ∃ x, x = w8.setCell ⟨w6.heap.size, 3, none⟩ (.slice Av8 (doesV s q).length cv8) := ⟨_, rfl⟩
    rw [← hw9] at OE9 RE9 H9 ST9 V9 O9 kE9 W9s ⊢
    clear hw9 oE rE
    have hX10 := Lib.hid (show Below w9.heap.size w9 (w9.alloc (.cells #[.int .i64 q.client, .int .i64 q.num, .int .i64 (doesC s q), .slice Av8 (doesV s q).length cv8] 36)) from (Below.refl _ _).alloc (Nat.le_refl _) _)
    have hv := heap_alloc_last w9 (.cells #[.int .i64 q.client, .int .i64 q.num, .int .i64 (doesC s q), .slice Av8 (doesV s q).length cv8] 36)
    rw [W9s] at hv
    have H10 := Lib.hid (H9.out.later hX10.out)
    have ST10 := Lib.hid (ST9.out.below hX10.out)
    have V10 := Lib.hid (V9.out.below hX10.out)
    have O10 := Lib.hid (O9.out.below hX10.out)
    have OE10 := Lib.hid (OE9.out.below hX10.out)
    have hfl : findR s.reps q.client ≤ s.reps.length := bs_le _ _
    have e1 : ∀ y ∈ els, ∀ u ∈ y, u.oneCell' = true := fun y hy u hu => by
      obtain ⟨k, hk⟩ := List.getElem?_of_mem hy
      have hk' : k < els.length := (List.getElem?_eq_some_iff.1 hk).1
      obtain ⟨Av, cv, he, _, _⟩ := RE9.out k y (repOf s.reps k) hk (by simp [repOf, List.getD_eq_getElem?_getD, show k < s.reps.length from by omega])
      rw [he] at hu
      simp only [List.mem_cons, List.not_mem_nil, or_false] at hu
      rcases hu with rfl | rfl | rfl | rfl <;> rfl
    refine (insR_any w3.heap.size Ar2 s.reps.length cr2 (findR s.reps q.client) w8.heap.size els [.int .i64 q.client, .int .i64 q.num, .int .i64 (doesC s q), .slice Av8 (doesV s q).length cv8] _ _ OE10.out e1 hfl b2 rfl
      (fun u hu => by simp only [List.mem_cons, List.not_mem_nil, or_false] at hu; rcases hu with rfl | rfl | rfl | rfl <;> rfl) rfl hv (fun e => by have := (hK _ e).2; omega) (by rw [World.size_alloc, W9s]; omega)).mono ?_
    rintro e w11 ⟨A11, c11, rfl, hc11, oN, hg11⟩
    have hT : ∀ k, (Value.slice Ar2 s.reps.length cr2).ownBlock = some k → ∃ cs, (w9.alloc (.cells #[.int .i64 q.client, .int .i64 q.num, .int .i64 (doesC s q), .slice Av8 (doesV s q).length cv8] 36)).heap[k]? = some (Obj.cells cs 36 (0, 0)) := fun k e => OE10.out.typed k e
    have hT9 : ∀ (k : Nat) (cs : Array Value) (t : TypeId) (fz : Nat × Nat), (Value.slice Ar2 s.reps.length cr2).ownBlock = some k → (w9.alloc (.cells #[.int .i64 q.client, .int .i64 q.num, .int .i64 (doesC s q), .slice Av8 (doesV s q).length cv8] 36)).heap[k]? = some (Obj.cells cs t fz) → ¬ t = 9 := fun k cs t fz e hb ht => by
      obtain ⟨cs', hc⟩ := hT k e
      rw [hb] at hc
      cases hc
      cases ht
    have H11 := Lib.hid (H10.out.grown hg11 fun k e => by have := (hK k e).1; omega)
    have ST11 := Lib.hid (ST10.out.grown hg11 hT)
    have V11 := Lib.hid (V10.out.grown hg11 hT9)
    have hAS := Lib.hid (applyS_new hgq.out hold.out)
    have hrs : (applyS s q).reps = s.reps.take (findR s.reps q.client) ++ (newR s q :: s.reps.drop (findR s.reps q.client)) := by
      rw [hAS.out]
      show putR s.reps (newR s q) = _
      rw [putR, if_neg (by show ¬ hasR s.reps q.client = true; rw [hh.out]; decide)]
      rfl
    have hlen : (els.take (findR s.reps q.client) ++ ([.int .i64 q.client, .int .i64 q.num, .int .i64 (doesC s q), .slice Av8 (doesV s q).length cv8] :: els.drop (findR s.reps q.client))).length = (applyS s q).reps.length := by
      rw [hrs]
      simp [lE]
    rw [hlen] at hc11 oN ⊢
    have OR11 := Lib.hid (show OwnReps w11 w3.heap.size (.slice A11 (applyS s q).reps.length c11) (applyS s q).reps from by
      rw [hrs]
      exact OwnReps.moved lE hfl (fun k e r he hr => ((RE9.out k e r he hr).below hX10.out).grown hg11 hT9) ⟨Av8, cv8, rfl, hcv8, O10.out.grown hg11 hT9⟩ (by rw [hrs] at oN; exact oN))
    clear hrs hlen oN hg11 hT hT9 hv e1
    clear a0 a1 a2 a3 x0 x1 x2 x3 t0 t1 t2 t3 t4 u0 u1 u2 u3 u4 v0 v1 v2 v3 v4 z4 z3 z2 z1 z0
    clear s0 s1 s2 s3 s4 n0 n1 n2 n3 n4
    obtain ⟨a0, a1, a2, a3, _⟩ := four H11.out.k0
    obtain ⟨t0, t1, t2, t3, t4⟩ := four H11.out.k2
    obtain ⟨u0, u1, u2, u3, u4⟩ := four H11.out.k3
    obtain ⟨v0, v1, v2, v3, v4⟩ := four H11.out.k4
    obtain ⟨s0, s1, s2, s3, s4⟩ := four ST11.out.blk
    go_wp2_with fail
    have H12 := Lib.hid (H11.out.setFar (g := w4.heap.size) z44 1 (.slice A11 (applyS s q).reps.length c11))
    have k9 := Lib.hid (blk_set ST11.out.blk 1 (.slice A11 (applyS s q).reps.length c11))
    have OP12 := Lib.hid (ST11.out.ownP.set ST11.out.blk (by decide) 1 (.slice A11 (applyS s q).reps.length c11))
    have OM12 := Lib.hid (ST11.out.ownM.set ST11.out.blk (by decide) 1 (.slice A11 (applyS s q).reps.length c11))
    have OR12 := Lib.hid (OR11.out.set ST11.out.blk (by decide) (by decide) 1 (.slice A11 (applyS s q).reps.length c11))
    have V12 := Lib.hid (V11.out.set ST11.out.blk (by decide) 1 (.slice A11 (applyS s q).reps.length c11))
    obtain ⟨w12, hw12⟩ : ∃ x, x = w11.setCell ⟨w4.heap.size, 1, none⟩ (.slice A11 (applyS s q).reps.length c11) := ⟨_, rfl⟩
    rw [← hw12] at H12 k9 OP12 OM12 OR12 V12 ⊢
    clear hw12
    clear a0 a1 a2 a3 t0 t1 t2 t3 t4 u0 u1 u2 u3 u4 v0 v1 v2 v3 v4 s0 s1 s2 s3 s4
    obtain ⟨t0, t1, t2, t3, t4⟩ := four H12.out.k2
    obtain ⟨u0, u1, u2, u3, u4⟩ := four H12.out.k3
    obtain ⟨v0, v1, v2, v3, v4⟩ := four H12.out.k4
    obtain ⟨s0, s1, s2, s3, s4⟩ := four k9.out
    have y1 : ¬ w4.heap.size = w.heap.size + 1 + 1 := by omega
    have y2 : ¬ w4.heap.size = w.heap.size + 1 + 1 + 1 := by omega
    have y3 : ¬ w.heap.size + 1 + 1 = w4.heap.size := by omega
    have y4 : ¬ w.heap.size + 1 + 1 + 1 = w4.heap.size := by omega
    have y5 : ¬ w.heap.size + 1 + 1 = w.heap.size + 1 + 1 + 1 + 1 := by omega
    have y6 : ¬ w.heap.size + 1 + 1 + 1 = w.heap.size + 1 + 1 + 1 + 1 := by omega
    go_region_held3 (fun W => W.cell? ⟨w4.heap.size, 0, none⟩ = some (.slice Ap6 (doesS s q).pairs.length cp6) ∧ W.cell? ⟨w4.heap.size, 1, none⟩ = some (.slice A11 (applyS s q).reps.length c11) ∧ W.cell? ⟨w4.heap.size, 2, none⟩ = some (.int .i64 (doesS s q).epoch) ∧ W.cell? ⟨w4.heap.size, 3, none⟩ = some (.slice Am6 (doesS s q).mbs.length cm6) ∧
        W.cell? ⟨w.heap.size + 1 + 1 + 1 + 1, 0, none⟩ = some (.int .i64 q.client) ∧ W.cell? ⟨w.heap.size + 1 + 1 + 1 + 1, 1, none⟩ = some (.int .i64 q.num) ∧ W.cell? ⟨w.heap.size + 1 + 1 + 1 + 1, 2, none⟩ = some (.int .i64 (doesC s q)) ∧ W.cell? ⟨w.heap.size + 1 + 1 + 1 + 1, 3, none⟩ = some (.slice Av (doesV s q).length cv)) (go_keep)
      (fail)
    go_wp2_with fail
    rw [store4 H12.out.k2]
    have k3' : (w12.setRow (w.heap.size + 1 + 1) #[.slice Ap6 (doesS s q).pairs.length cp6, .slice A11 (applyS s q).reps.length c11, .int .i64 (doesS s q).epoch, .slice Am6 (doesS s q).mbs.length cm6]).heap[w.heap.size + 1 + 1 + 1]? = _ := (setRow_other _ _ _ _ (by omega)).trans H12.out.k3
    rw [store4 k3']
    have hgB := (heap_drew_eq _ _).trans (setRow_heap _ (w.heap.size + 1 + 1 + 1) _ #[.int .i64 q.client, .int .i64 q.num, .int .i64 (doesC s q), .slice Av (doesV s q).length cv] 36 (0, 0) k3')
    have hgA := (heap_drew_eq _ _).trans ((setRow_other _ (w.heap.size + 1 + 1 + 1) (w.heap.size + 1 + 1) #[.int .i64 q.client, .int .i64 q.num, .int .i64 (doesC s q), .slice Av (doesV s q).length cv] (by omega)).trans (setRow_heap w12 (w.heap.size + 1 + 1) _ #[.slice Ap6 (doesS s q).pairs.length cp6, .slice A11 (applyS s q).reps.length c11, .int .i64 (doesS s q).epoch, .slice Am6 (doesS s q).mbs.length cm6] 28 (0, 0) H12.out.k2))
    refine bodyPost_ret (res_cc rfl _ _ (w.heap.size + 1 + 1) (w.heap.size + 1 + 1 + 1) 28 36 _ _ (0, 0) (0, 0) _ _ rfl hgA Tryd.underlying28 rfl size28 rfl hgB Tryd.underlying36 rfl size36) rfl ?_
    have hkk : ∀ k, k ≠ w.heap.size + 1 + 1 → k ≠ w.heap.size + 1 + 1 + 1 → ((w12.setRow (w.heap.size + 1 + 1) #[.slice Ap6 (doesS s q).pairs.length cp6, .slice A11 (applyS s q).reps.length c11, .int .i64 (doesS s q).epoch, .slice Am6 (doesS s q).mbs.length cm6]).setRow (w.heap.size + 1 + 1 + 1) #[.int .i64 q.client, .int .i64 q.num, .int .i64 (doesC s q), .slice Av (doesV s q).length cv]).drew.heap[k]? = w12.heap[k]? := fun k h1 h2 => (heap_drew_eq _ _).trans ((setRow_other _ _ _ _ h2).trans (setRow_other _ _ _ _ h1))
    have hne : ∀ (b : Nat) (cs : Array Value) (t : TypeId) (fz : Nat × Nat), w12.heap[b]? = some (Obj.cells cs t fz) → t ≠ 28 → t ≠ 36 → b ≠ w.heap.size + 1 + 1 ∧ b ≠ w.heap.size + 1 + 1 + 1 := fun b cs t fz hb h1 h2 =>
      ⟨fun e => (by rw [e, H12.out.k2] at hb; cases hb; exact h1 rfl), fun e => (by rw [e, H12.out.k3] at hb; cases hb; exact h2 rfl)⟩
    have k9' := fun (b : Nat) (cs : Array Value) (fz : Nat × Nat) (hb : w12.heap[b]? = some (Obj.cells cs 9 fz)) => hkk b (hne b cs 9 fz hb (by decide) (by decide)).1 (hne b cs 9 fz hb (by decide) (by decide)).2
    have hAS := applyS_new hgq.out hold.out
    refine ⟨_, _, rfl, OwnSt.of (d := doesS s q) (by rw [hAS]) (by rw [hAS]) (by rw [hAS]) ST11.out.capP hc11 ST11.out.capM
        (OP12.out.keep fun k hk => by obtain ⟨cells, hc⟩ := OP12.out.typed k hk; exact hkk k (hne k _ _ _ hc (by decide) (by decide)).1 (hne k _ _ _ hc (by decide) (by decide)).2)
        ((OR12.out.keepB (fun k hk => hkk k (by omega) (by omega)) k9').lower hwb)
        (OM12.out.keep fun k hk => by obtain ⟨cells, hc⟩ := OM12.out.typed k hk; exact hkk k (hne k _ _ _ hc (by decide) (by decide)).1 (hne k _ _ _ hc (by decide) (by decide)).2), ?_,
      (below_setRow (below_setRow H12.out.bel (by omega) _) (by omega) _).drew⟩
    rw [applyR_new hgq.out hold.out]
    exact ⟨Av, cv, rfl, hcv, V12.out.keep fun b cs t fz hb ht => by subst ht; exact k9' b cs fz hb⟩
  · have hlt := findR_lt hh
    have hh := Lib.hid hh
    obtain ⟨g, off, Av, cv, hA, hgl, e0, e1, e2, e3, hcv, hrow⟩ := (HR.out.below H2.out.bel).at hlt
    subst hA
    clear e0 e2 e3 hrow hcv
    obtain ⟨rn, hrn⟩ : ∃ rn, rn = (repOf s.reps (findR s.reps q.client)).num := ⟨_, rfl⟩
    rw [← hrn] at e1
    have HRN := Lib.hid hrn
    clear hrn
    go_wp2_with fail
    by_cases hle : q.num ≤ rn
    · have wd0 := Wd.cell x1 z1
      have wd1 := Wd.cell a1 z0
      have wd2 := Wd.cell e1 hgl
      refine region_wd _ (by kernel_rfl) (by kernel_rfl) ?_
      repeat (go_big_quiet_step (fail))
      refine wpQuiet_nil ?_
      rintro _ ⟨i, rfl⟩
      have H3 := Lib.hid (H2.out.later i.be)
      have e1 := cell_later i.be e1
      have hgl : g < i.wd.heap.size := by have := i.be.size; omega
      obtain ⟨w3, hwn⟩ : ∃ x, x = i.wd := ⟨_, rfl⟩
      rw [← hwn] at H3 e1 hgl ⊢
      clear wd0 wd1 wd2 hwn i
      clear a0 a1 a2 a3 x0 x1 x2 x3 t0 t1 t2 t3 t4 u0 u1 u2 u3 u4 v0 v1 v2 v3 v4 z4 z3 z2 z1 z0
      obtain ⟨a0, a1, a2, a3, _⟩ := four H3.out.k0
      obtain ⟨x0, x1, x2, x3⟩ := Req.facts H3.out.k1
      obtain ⟨t0, t1, t2, t3, t4⟩ := four H3.out.k2
      obtain ⟨u0, u1, u2, u3, u4⟩ := four H3.out.k3
      obtain ⟨v0, v1, v2, v3, v4⟩ := four H3.out.k4
      have z4 : w.heap.size + 1 + 1 + 1 + 1 < w3.heap.size := heap_lt H3.out.k4
      have z3 : w.heap.size + 1 + 1 + 1 < w3.heap.size := by omega
      have z2 : w.heap.size + 1 + 1 < w3.heap.size := by omega
      have z1 : w.heap.size + 1 < w3.heap.size := by omega
      have z0 : w.heap.size < w3.heap.size := by omega
      have hold := Lib.hid (show oldQ s q = true from by rw [oldQ, hh.out, decide_eq_true (by rw [← HRN.out]; exact hle)]; rfl)
      go_wp2_with fail
      have wd0 := Wd.cell x1 z1
      have wd1 := Wd.cell a1 z0
      have wd2 := Wd.cell e1 hgl
      refine region_wd _ (by kernel_rfl) (by kernel_rfl) ?_
      repeat (go_big_quiet_step (fail))
      refine wpQuiet_nil ?_
      rintro _ ⟨i, rfl⟩
      have H4 := Lib.hid (H3.out.later i.be)
      have e1 := cell_later i.be e1
      have hgl : g < i.wd.heap.size := by have := i.be.size; omega
      obtain ⟨w4, hwn⟩ : ∃ x, x = i.wd := ⟨_, rfl⟩
      rw [← hwn] at H4 e1 hgl ⊢
      clear wd0 wd1 wd2 hwn i
      clear a0 a1 a2 a3 x0 x1 x2 x3 t0 t1 t2 t3 t4 u0 u1 u2 u3 u4 v0 v1 v2 v3 v4 z4 z3 z2 z1 z0
      obtain ⟨a0, a1, a2, a3, _⟩ := four H4.out.k0
      obtain ⟨x0, x1, x2, x3⟩ := Req.facts H4.out.k1
      obtain ⟨t0, t1, t2, t3, t4⟩ := four H4.out.k2
      obtain ⟨u0, u1, u2, u3, u4⟩ := four H4.out.k3
      obtain ⟨v0, v1, v2, v3, v4⟩ := four H4.out.k4
      have z4 : w.heap.size + 1 + 1 + 1 + 1 < w4.heap.size := heap_lt H4.out.k4
      have z3 : w.heap.size + 1 + 1 + 1 < w4.heap.size := by omega
      have z2 : w.heap.size + 1 + 1 < w4.heap.size := by omega
      have z1 : w.heap.size + 1 < w4.heap.size := by omega
      have z0 : w.heap.size < w4.heap.size := by omega
      by_cases heq : q.num = rn
      · go_wp2_with fail
        refine (Last_any T2 T3 _ _ s.reps cr _ _ _ q.client _ rfl (HR.out.below H4.out.bel) b2 HB4.out).mono ?_
        rintro e w5 ⟨v, rfl, ⟨Av5, cv5, rfl, hcv5, ho5⟩, hb5⟩
        have H5 := Lib.hid (H4.out.later hb5)
        have HO5 := Lib.hid (ho5.lower (base' := w.heap.size) H4.out.bel.size)
        clear hb5 ho5 e1 hgl
        clear a0 a1 a2 a3 x0 x1 x2 x3 t0 t1 t2 t3 t4 u0 u1 u2 u3 u4 v0 v1 v2 v3 v4 z4 z3 z2 z1 z0
        obtain ⟨a0, a1, a2, a3, _⟩ := four H5.out.k0
        obtain ⟨x0, x1, x2, x3⟩ := Req.facts H5.out.k1
        obtain ⟨t0, t1, t2, t3, t4⟩ := four H5.out.k2
        obtain ⟨u0, u1, u2, u3, u4⟩ := four H5.out.k3
        obtain ⟨v0, v1, v2, v3, v4⟩ := four H5.out.k4
        have z4 : w.heap.size + 1 + 1 + 1 + 1 < w5.heap.size := heap_lt H5.out.k4
        have z3 : w.heap.size + 1 + 1 + 1 < w5.heap.size := by omega
        have z2 : w.heap.size + 1 + 1 < w5.heap.size := by omega
        have z1 : w.heap.size + 1 < w5.heap.size := by omega
        have z0 : w.heap.size < w5.heap.size := by omega
        go_wp2_with fail
        rw [store4 H5.out.k4]
        have H6 := Lib.hid (H5.out.rep (lastR s.reps q.client).client (lastR s.reps q.client).num (lastR s.reps q.client).code (.slice Av5 (lastR s.reps q.client).vals.length cv5))
        have HV := Lib.hid (HO5.out.other H5.out.k4 (by decide) fun k hk => setRow_other w5 _ k #[.int .i64 (lastR s.reps q.client).client, .int .i64 (lastR s.reps q.client).num, .int .i64 (lastR s.reps q.client).code, .slice Av5 (lastR s.reps q.client).vals.length cv5] hk)
        clear a0 a1 a2 a3 x0 x1 x2 x3 t0 t1 t2 t3 t4 u0 u1 u2 u3 u4 v0 v1 v2 v3 v4 z4 z3 z2 z1 z0
        obtain ⟨a0, a1, a2, a3, _⟩ := four H6.out.k0
        obtain ⟨v0, v1, v2, v3, v4⟩ := four H6.out.k4
        have y1 : ¬ w.heap.size = w.heap.size + 1 + 1 := by omega
        have y2 : ¬ w.heap.size = w.heap.size + 1 + 1 + 1 := by omega
        have y3 : ¬ w.heap.size + 1 + 1 = w.heap.size := by omega
        have y4 : ¬ w.heap.size + 1 + 1 + 1 = w.heap.size := by omega
        have y5 : ¬ w.heap.size + 1 + 1 = w.heap.size + 1 + 1 + 1 + 1 := by omega
        have y6 : ¬ w.heap.size + 1 + 1 + 1 = w.heap.size + 1 + 1 + 1 + 1 := by omega
        have HPD := Lib.hid (HP.out.below H6.out.bel.drew)
        have HRD := Lib.hid (HR.out.below H6.out.bel.drew)
        have HMD := Lib.hid (HM.out.below H6.out.bel.drew)
        have HD0 := Lib.hid (show Below (w5.setRow (w.heap.size + 1 + 1 + 1 + 1) #[.int .i64 (lastR s.reps q.client).client, .int .i64 (lastR s.reps q.client).num, .int .i64 (lastR s.reps q.client).code, .slice Av5 (lastR s.reps q.client).vals.length cv5]).heap.size (w5.setRow (w.heap.size + 1 + 1 + 1 + 1) #[.int .i64 (lastR s.reps q.client).client, .int .i64 (lastR s.reps q.client).num, .int .i64 (lastR s.reps q.client).code, .slice Av5 (lastR s.reps q.client).vals.length cv5]) (w5.setRow (w.heap.size + 1 + 1 + 1 + 1) #[.int .i64 (lastR s.reps q.client).client, .int .i64 (lastR s.reps q.client).num, .int .i64 (lastR s.reps q.client).code, .slice Av5 (lastR s.reps q.client).vals.length cv5]).drew from (Below.refl _ _).drew)
        go_region_held3 (fun W => W.cell? ⟨w.heap.size, 0, none⟩ = some (.slice Ap s.pairs.length cp) ∧ W.cell? ⟨w.heap.size, 1, none⟩ = some (.slice (some ⟨g, off, none⟩) s.reps.length cr) ∧ W.cell? ⟨w.heap.size, 2, none⟩ = some (.int .i64 s.epoch) ∧ W.cell? ⟨w.heap.size, 3, none⟩ = some (.slice Am s.mbs.length cm) ∧
            W.cell? ⟨w.heap.size + 1 + 1 + 1 + 1, 0, none⟩ = some (.int .i64 (lastR s.reps q.client).client) ∧ W.cell? ⟨w.heap.size + 1 + 1 + 1 + 1, 1, none⟩ = some (.int .i64 (lastR s.reps q.client).num) ∧ W.cell? ⟨w.heap.size + 1 + 1 + 1 + 1, 2, none⟩ = some (.int .i64 (lastR s.reps q.client).code) ∧ W.cell? ⟨w.heap.size + 1 + 1 + 1 + 1, 3, none⟩ = some (.slice Av5 (lastR s.reps q.client).vals.length cv5)) (go_keep)
          (first
            | (go_at_call 34; refine (copied_any Ap (some ⟨g, off, none⟩) Am cp cr cm s _ T1 T2 T3 T4 HPD.out HRD.out HMD.out b1 b2 (by omega) HB4.out).mono ?_; rintro e w2 ⟨v, rfl, ⟨Ap2, cp2, Ar2, cr2, Am2, cm2, rfl, hos⟩, hb2⟩; have HOS := Lib.hid (show OwnSt w2 _ (.agg #[.slice Ap2 s.pairs.length cp2, .slice Ar2 s.reps.length cr2, .int .i64 s.epoch, .slice Am2 s.mbs.length cm2]) s from ⟨_, _, _, _, _, _, rfl, hos⟩); have HFX := Lib.hid (H6.out.later (HD0.out.trans hb2)); have HVX := Lib.hid (HV.out.below (HD0.out.trans hb2)); have HSZ := Lib.hid (show w.heap.size ≤ (w5.setRow (w.heap.size + 1 + 1 + 1 + 1) #[.int .i64 (lastR s.reps q.client).client, .int .i64 (lastR s.reps q.client).num, .int .i64 (lastR s.reps q.client).code, .slice Av5 (lastR s.reps q.client).vals.length cv5]).drew.heap.size from H6.out.bel.size); have a0 := cell_later hb2 a0; have a1 := cell_later hb2 a1; have a2 := cell_later hb2 a2; have a3 := cell_later hb2 a3; have v0 := cell_later hb2 v0; have v1 := cell_later hb2 v1; have v2 := cell_later hb2 v2; have v3 := cell_later hb2 v3; obtain ⟨t0, t1, t2, t3, t4⟩ := four HFX.out.k2; obtain ⟨u0, u1, u2, u3, u4⟩ := four HFX.out.k3; clear hb2 hos))
        go_wp2_with fail
        rw [store4 HFX.out.k2]
        have k3' : (w2.setRow (w.heap.size + 1 + 1) #[.slice Ap2 s.pairs.length cp2, .slice Ar2 s.reps.length cr2, .int .i64 s.epoch, .slice Am2 s.mbs.length cm2]).heap[w.heap.size + 1 + 1 + 1]? = _ := (setRow_other _ _ _ _ (by omega)).trans HFX.out.k3
        rw [store4 k3']
        have hgB := setRow_heap _ (w.heap.size + 1 + 1 + 1) _ #[.int .i64 (lastR s.reps q.client).client, .int .i64 (lastR s.reps q.client).num, .int .i64 (lastR s.reps q.client).code, .slice Av5 (lastR s.reps q.client).vals.length cv5] 36 (0, 0) k3'
        have hgA := (setRow_other _ (w.heap.size + 1 + 1 + 1) (w.heap.size + 1 + 1) #[.int .i64 (lastR s.reps q.client).client, .int .i64 (lastR s.reps q.client).num, .int .i64 (lastR s.reps q.client).code, .slice Av5 (lastR s.reps q.client).vals.length cv5] (by omega)).trans (setRow_heap w2 (w.heap.size + 1 + 1) _ #[.slice Ap2 s.pairs.length cp2, .slice Ar2 s.reps.length cr2, .int .i64 s.epoch, .slice Am2 s.mbs.length cm2] 28 (0, 0) HFX.out.k2)
        refine bodyPost_ret (res_cc rfl _ _ (w.heap.size + 1 + 1) (w.heap.size + 1 + 1 + 1) 28 36 _ _ (0, 0) (0, 0) _ _ rfl hgA Tryd.underlying28 rfl size28 rfl hgB Tryd.underlying36 rfl size36) rfl ?_
        have hkk : ∀ k, k ≠ w.heap.size + 1 + 1 → k ≠ w.heap.size + 1 + 1 + 1 → ((w2.setRow (w.heap.size + 1 + 1) #[.slice Ap2 s.pairs.length cp2, .slice Ar2 s.reps.length cr2, .int .i64 s.epoch, .slice Am2 s.mbs.length cm2]).setRow (w.heap.size + 1 + 1 + 1) #[.int .i64 (lastR s.reps q.client).client, .int .i64 (lastR s.reps q.client).num, .int .i64 (lastR s.reps q.client).code, .slice Av5 (lastR s.reps q.client).vals.length cv5]).heap[k]? = w2.heap[k]? := fun k h1 h2 => (setRow_other _ _ _ _ h2).trans (setRow_other _ _ _ _ h1)
        have hz := heap_lt HFX.out.k4
        have h9 : ∀ (b : Nat) (cs : Array Value) (fz : Nat × Nat), w2.heap[b]? = some (Obj.cells cs 9 fz) → b ≠ w.heap.size + 1 + 1 ∧ b ≠ w.heap.size + 1 + 1 + 1 := fun b cs fz hb =>
          ⟨fun e => (by rw [e, HFX.out.k2] at hb; cases hb), fun e => (by rw [e, HFX.out.k3] at hb; cases hb)⟩
        have HZ := Lib.hid (show w.heap.size + 1 + 1 + 1 < (w5.setRow (w.heap.size + 1 + 1 + 1 + 1) #[.int .i64 (lastR s.reps q.client).client, .int .i64 (lastR s.reps q.client).num, .int .i64 (lastR s.reps q.client).code, .slice Av5 (lastR s.reps q.client).vals.length cv5]).drew.heap.size from heap_lt H6.out.k3)
        have hzz := HZ.out
        rw [applyS_old hgq.out hold.out, applyR_same hgq.out hold.out (by rw [← HRN.out]; exact heq)]
        exact ⟨_, _, rfl, HOS.out.move HSZ.out (fun k hk => hkk k (by omega) (by omega)) (fun b cs fz hb => hkk b (h9 b cs fz hb).1 (h9 b cs fz hb).2), ⟨Av5, cv5, rfl, hcv5, Own.rowOf (HVX.out.keep fun k hk => by obtain ⟨cells, hc⟩ := HVX.out.typed k hk; exact hkk k (h9 k _ _ hc).1 (h9 k _ _ hc).2)⟩,
          below_setRow (below_setRow HFX.out.bel (by omega) _) (by omega) _⟩
      · go_wp2_with fail
        have H5 := Lib.hid (H4.out.code 8)
        clear a0 a1 a2 a3 x0 x1 x2 x3 t0 t1 t2 t3 t4 u0 u1 u2 u3 u4 v0 v1 v2 v3 v4 z4 z3 z2 z1 z0
        obtain ⟨a0, a1, a2, a3, _⟩ := four H5.out.k0
        obtain ⟨v0, v1, v2, v3, v4⟩ := four H5.out.k4
        have y1 : ¬ w.heap.size = w.heap.size + 1 + 1 := by omega
        have y2 : ¬ w.heap.size = w.heap.size + 1 + 1 + 1 := by omega
        have y3 : ¬ w.heap.size + 1 + 1 = w.heap.size := by omega
        have y4 : ¬ w.heap.size + 1 + 1 + 1 = w.heap.size := by omega
        have y5 : ¬ w.heap.size + 1 + 1 = w.heap.size + 1 + 1 + 1 + 1 := by omega
        have y6 : ¬ w.heap.size + 1 + 1 + 1 = w.heap.size + 1 + 1 + 1 + 1 := by omega
        have HPD := Lib.hid (HP.out.below H5.out.bel.drew)
        have HRD := Lib.hid (HR.out.below H5.out.bel.drew)
        have HMD := Lib.hid (HM.out.below H5.out.bel.drew)
        have HD0 := Lib.hid (show Below (w4.setCell ⟨w.heap.size + 1 + 1 + 1 + 1, 2, none⟩ (.int .i64 8)).heap.size (w4.setCell ⟨w.heap.size + 1 + 1 + 1 + 1, 2, none⟩ (.int .i64 8)) (w4.setCell ⟨w.heap.size + 1 + 1 + 1 + 1, 2, none⟩ (.int .i64 8)).drew from (Below.refl _ _).drew)
        go_region_held3 (fun W => W.cell? ⟨w.heap.size, 0, none⟩ = some (.slice Ap s.pairs.length cp) ∧ W.cell? ⟨w.heap.size, 1, none⟩ = some (.slice (some ⟨g, off, none⟩) s.reps.length cr) ∧ W.cell? ⟨w.heap.size, 2, none⟩ = some (.int .i64 s.epoch) ∧ W.cell? ⟨w.heap.size, 3, none⟩ = some (.slice Am s.mbs.length cm) ∧
            W.cell? ⟨w.heap.size + 1 + 1 + 1 + 1, 0, none⟩ = some (.int .i64 q.client) ∧ W.cell? ⟨w.heap.size + 1 + 1 + 1 + 1, 1, none⟩ = some (.int .i64 q.num) ∧ W.cell? ⟨w.heap.size + 1 + 1 + 1 + 1, 2, none⟩ = some (.int .i64 8) ∧ W.cell? ⟨w.heap.size + 1 + 1 + 1 + 1, 3, none⟩ = some (.slice none 0 0)) (go_keep)
          (first
            | (go_at_call 34; refine (copied_any Ap (some ⟨g, off, none⟩) Am cp cr cm s _ T1 T2 T3 T4 HPD.out HRD.out HMD.out b1 b2 (by omega) HB4.out).mono ?_; rintro e w2 ⟨v, rfl, ⟨Ap2, cp2, Ar2, cr2, Am2, cm2, rfl, hos⟩, hb2⟩; have HOS := Lib.hid (show OwnSt w2 _ (.agg #[.slice Ap2 s.pairs.length cp2, .slice Ar2 s.reps.length cr2, .int .i64 s.epoch, .slice Am2 s.mbs.length cm2]) s from ⟨_, _, _, _, _, _, rfl, hos⟩); have HFX := Lib.hid (H5.out.later (HD0.out.trans hb2));  have HSZ := Lib.hid (show w.heap.size ≤ (w4.setCell ⟨w.heap.size + 1 + 1 + 1 + 1, 2, none⟩ (.int .i64 8)).drew.heap.size from H5.out.bel.size); have a0 := cell_later hb2 a0; have a1 := cell_later hb2 a1; have a2 := cell_later hb2 a2; have a3 := cell_later hb2 a3; have v0 := cell_later hb2 v0; have v1 := cell_later hb2 v1; have v2 := cell_later hb2 v2; have v3 := cell_later hb2 v3; obtain ⟨t0, t1, t2, t3, t4⟩ := four HFX.out.k2; obtain ⟨u0, u1, u2, u3, u4⟩ := four HFX.out.k3; clear hb2 hos))
        go_wp2_with fail
        rw [store4 HFX.out.k2]
        have k3' : (w2.setRow (w.heap.size + 1 + 1) #[.slice Ap2 s.pairs.length cp2, .slice Ar2 s.reps.length cr2, .int .i64 s.epoch, .slice Am2 s.mbs.length cm2]).heap[w.heap.size + 1 + 1 + 1]? = _ := (setRow_other _ _ _ _ (by omega)).trans HFX.out.k3
        rw [store4 k3']
        have hgB := setRow_heap _ (w.heap.size + 1 + 1 + 1) _ #[.int .i64 q.client, .int .i64 q.num, .int .i64 8, .slice none 0 0] 36 (0, 0) k3'
        have hgA := (setRow_other _ (w.heap.size + 1 + 1 + 1) (w.heap.size + 1 + 1) #[.int .i64 q.client, .int .i64 q.num, .int .i64 8, .slice none 0 0] (by omega)).trans (setRow_heap w2 (w.heap.size + 1 + 1) _ #[.slice Ap2 s.pairs.length cp2, .slice Ar2 s.reps.length cr2, .int .i64 s.epoch, .slice Am2 s.mbs.length cm2] 28 (0, 0) HFX.out.k2)
        refine bodyPost_ret (res_cc rfl _ _ (w.heap.size + 1 + 1) (w.heap.size + 1 + 1 + 1) 28 36 _ _ (0, 0) (0, 0) _ _ rfl hgA Tryd.underlying28 rfl size28 rfl hgB Tryd.underlying36 rfl size36) rfl ?_
        have hkk : ∀ k, k ≠ w.heap.size + 1 + 1 → k ≠ w.heap.size + 1 + 1 + 1 → ((w2.setRow (w.heap.size + 1 + 1) #[.slice Ap2 s.pairs.length cp2, .slice Ar2 s.reps.length cr2, .int .i64 s.epoch, .slice Am2 s.mbs.length cm2]).setRow (w.heap.size + 1 + 1 + 1) #[.int .i64 q.client, .int .i64 q.num, .int .i64 8, .slice none 0 0]).heap[k]? = w2.heap[k]? := fun k h1 h2 => (setRow_other _ _ _ _ h2).trans (setRow_other _ _ _ _ h1)
        have hz := heap_lt HFX.out.k4
        have h9 : ∀ (b : Nat) (cs : Array Value) (fz : Nat × Nat), w2.heap[b]? = some (Obj.cells cs 9 fz) → b ≠ w.heap.size + 1 + 1 ∧ b ≠ w.heap.size + 1 + 1 + 1 := fun b cs fz hb =>
          ⟨fun e => (by rw [e, HFX.out.k2] at hb; cases hb), fun e => (by rw [e, HFX.out.k3] at hb; cases hb)⟩
        have HZ := Lib.hid (show w.heap.size + 1 + 1 + 1 < (w4.setCell ⟨w.heap.size + 1 + 1 + 1 + 1, 2, none⟩ (.int .i64 8)).drew.heap.size from heap_lt H5.out.k3)
        have hzz := HZ.out
        rw [applyS_old hgq.out hold.out, applyR_less hgq.out hold.out (by rw [← HRN.out]; exact heq)]
        exact ⟨_, _, rfl, HOS.out.move HSZ.out (fun k hk => hkk k (by omega) (by omega)) (fun b cs fz hb => hkk b (h9 b cs fz hb).1 (h9 b cs fz hb).2), ⟨none, 0, rfl, Nat.le_refl _, Row.nil _ _ _ _⟩,
          below_setRow (below_setRow HFX.out.bel (by omega) _) (by omega) _⟩
    · have wd0 := Wd.cell x1 z1
      have wd1 := Wd.cell a1 z0
      have wd2 := Wd.cell e1 hgl
      refine region_wd _ (by kernel_rfl) (by kernel_rfl) ?_
      repeat (go_big_quiet_step (fail))
      refine wpQuiet_nil ?_
      rintro _ ⟨i, rfl⟩
      have H3 := Lib.hid (H2.out.later i.be)
      obtain ⟨w3, hwn⟩ : ∃ x, x = i.wd := ⟨_, rfl⟩
      rw [← hwn] at H3 ⊢
      clear wd0 wd1 wd2 e1 hgl hwn i
      clear a0 a1 a2 a3 x0 x1 x2 x3 t0 t1 t2 t3 t4 u0 u1 u2 u3 u4 v0 v1 v2 v3 v4 z4 z3 z2 z1 z0
      obtain ⟨a0, a1, a2, a3, _⟩ := four H3.out.k0
      obtain ⟨x0, x1, x2, x3⟩ := Req.facts H3.out.k1
      obtain ⟨t0, t1, t2, t3, t4⟩ := four H3.out.k2
      obtain ⟨u0, u1, u2, u3, u4⟩ := four H3.out.k3
      obtain ⟨v0, v1, v2, v3, v4⟩ := four H3.out.k4
      have z4 : w.heap.size + 1 + 1 + 1 + 1 < w3.heap.size := heap_lt H3.out.k4
      have z3 : w.heap.size + 1 + 1 + 1 < w3.heap.size := by omega
      have z2 : w.heap.size + 1 + 1 < w3.heap.size := by omega
      have z1 : w.heap.size + 1 < w3.heap.size := by omega
      have z0 : w.heap.size < w3.heap.size := by omega
      have hold := Lib.hid (show oldQ s q = false from by rw [oldQ, decide_eq_false (by rw [← HRN.out]; exact hle), Bool.and_false])
      go_wp2_with fail
      refine (copied_any Ap (some ⟨g, off, none⟩) Am cp cr cm s _ T1 T2 T3 T4 (HP.out.below H3.out.bel) (HR.out.below H3.out.bel) (HM.out.below H3.out.bel) b1 b2 (by omega) HB4.out).mono ?_
      rintro e w4 ⟨v, rfl, ⟨Ap2, cp2, Ar2, cr2, Am2, cm2, rfl, c1, c2, c3, oP, oR, oM⟩, hb4⟩
      have H4 := Lib.hid (H3.out.later hb4)
      have hwb : w.heap.size ≤ w3.heap.size := H3.out.bel.size
      have OP := Lib.hid (oP.lower hwb)
      have OR := Lib.hid oR
      have OM := Lib.hid (oM.lower hwb)
      have hwb34 := Lib.hid hb4.size
      clear oP oR oM hb4
      clear a0 a1 a2 a3 x0 x1 x2 x3 t0 t1 t2 t3 t4 u0 u1 u2 u3 u4 v0 v1 v2 v3 v4 z4 z3 z2 z1 z0
      obtain ⟨a0, a1, a2, a3, _⟩ := four H4.out.k0
      obtain ⟨x0, x1, x2, x3⟩ := Req.facts H4.out.k1
      obtain ⟨t0, t1, t2, t3, t4⟩ := four H4.out.k2
      obtain ⟨u0, u1, u2, u3, u4⟩ := four H4.out.k3
      obtain ⟨v0, v1, v2, v3, v4⟩ := four H4.out.k4
      have z4 : w.heap.size + 1 + 1 + 1 + 1 < w4.heap.size := heap_lt H4.out.k4
      have z3 : w.heap.size + 1 + 1 + 1 < w4.heap.size := by omega
      have z2 : w.heap.size + 1 + 1 < w4.heap.size := by omega
      have z1 : w.heap.size + 1 < w4.heap.size := by omega
      have z0 : w.heap.size < w4.heap.size := by omega
      have hX := Lib.hid (show Below w4.heap.size w4 (w4.alloc (.cells #[.slice Ap2 s.pairs.length cp2, .slice Ar2 s.reps.length cr2, .int .i64 s.epoch, .slice Am2 s.mbs.length cm2] 28)) from (Below.refl _ _).alloc (Nat.le_refl _) _)
      have H5 := Lib.hid (H4.out.later hX.out)
      have HI5 := Lib.hid (show StI (w4.alloc (.cells #[.slice Ap2 s.pairs.length cp2, .slice Ar2 s.reps.length cr2, .int .i64 s.epoch, .slice Am2 s.mbs.length cm2] 28)) w.heap.size w4.heap.size Ap2 cp2 Ar2 s.reps.length cr2 Am2 cm2 s from
        ⟨heap_alloc_last _ _, c1, c3, OP.out.below hX.out, OM.out.below hX.out⟩)
      have OR5 := Lib.hid (OR.out.below hX.out)
      obtain ⟨_, _, _, y3⟩ := Req.facts H5.out.k1
      go_wp2_with (first
        | (with_reducible refine loadM rfl 54 _ rfl (w.heap.size + 1) 2 rfl 40 _ (Req.opLen _) _ y3 Tryd.underlying54 rfl size54 q.opA rfl ?_))
      refine (does_any w.heap.size w4.heap.size Ap2 cp2 Ar2 s.reps.length cr2 Am2 cm2 s q _ HI5.out b1 (by omega) (Nat.le_of_lt z0) (by rw [World.size_alloc]; omega) (HT.out.below H5.out.bel) HE.out HD.out).mono ?_
      rintro e w6 ⟨Av, cv, rfl, hcv, hrv, ⟨Ap6, cp6, Am6, cm6, hst⟩, hb6, hkept⟩
      have HRV := Lib.hid hrv
      have HST := Lib.hid hst
      have HB6 := Lib.hid hb6
      have HK6 := Lib.hid hkept
      clear hrv hst hb6 hkept y3
      have H6 := Lib.hid (H5.out.kept HK6.out z4 HB6.out)
      have OR6 := Lib.hid (OR5.out.kept HI5.out.blk HK6.out)
      clear a0 a1 a2 a3 x0 x1 x2 x3 t0 t1 t2 t3 t4 u0 u1 u2 u3 u4 v0 v1 v2 v3 v4 z4 z3 z2 z1 z0
      obtain ⟨a0, a1, a2, a3, _⟩ := four H6.out.k0
      obtain ⟨x0, x1, x2, x3⟩ := Req.facts H6.out.k1
      obtain ⟨t0, t1, t2, t3, t4⟩ := four H6.out.k2
      obtain ⟨u0, u1, u2, u3, u4⟩ := four H6.out.k3
      obtain ⟨v0, v1, v2, v3, v4⟩ := four H6.out.k4
      have z4 : w.heap.size + 1 + 1 + 1 + 1 < w6.heap.size := heap_lt H6.out.k4
      have z3 : w.heap.size + 1 + 1 + 1 < w6.heap.size := by omega
      have z2 : w.heap.size + 1 + 1 < w6.heap.size := by omega
      have z1 : w.heap.size + 1 < w6.heap.size := by omega
      have z0 : w.heap.size < w6.heap.size := by omega
      obtain ⟨s0, s1, s2, s3, s4⟩ := four HST.out.blk
      have y0 : ¬ w.heap.size + 1 + 1 + 1 + 1 = w4.heap.size := by have := heap_lt H4.out.k4; omega
      have y1 : ¬ w4.heap.size = w.heap.size + 1 + 1 + 1 + 1 := by have := heap_lt H4.out.k4; omega
      go_wp2_with fail
      have H7a := Lib.hid (H6.out.code (doesC s q))
      have H7 := Lib.hid (H7a.out.vals (.slice Av (doesV s q).length cv))
      have HR7 := Lib.hid ((HRV.out.set H6.out.k4 (by decide) 2 (.int .i64 (doesC s q))).set H7a.out.k4 (by decide) 3 (.slice Av (doesV s q).length cv))
      have hlt4 : w.heap.size + 1 + 1 + 1 + 1 < w3.heap.size := heap_lt H3.out.k4
      have HST7 := Lib.hid ((HST.out.set H6.out.k4 y0 (by decide) (by decide) 2 (.int .i64 (doesC s q))).set H7a.out.k4 y0 (by decide) (by decide) 3 (.slice Av (doesV s q).length cv))
      have OR7 := Lib.hid ((OR6.out.setB H6.out.k4 hlt4 (by decide) 2 (.int .i64 (doesC s q))).setB H7a.out.k4 hlt4 (by decide) 3 (.slice Av (doesV s q).length cv))
      have hdl := doesV_len (s := s) (q := q) b1 b3
      refine (cloneS_any (fun t => t = 9) Av (doesV s q).length cv ((doesV s q).map strC) _ (by simp) (HR7.out.below ((Below.refl _ _).alloc (Nat.le_refl _) _)) st_len st_one (by simpa using hdl)).mono ?_
      rintro e w8 ⟨Av8, cv8, rfl, hcv8, ho8, hb8⟩
      rw [List.length_map] at hcv8 ho8
      rw [List.length_map]
      have W7s : ((w6.setCell ⟨w.heap.size + 1 + 1 + 1 + 1, 2, none⟩ (.int .i64 (doesC s q))).setCell ⟨w.heap.size + 1 + 1 + 1 + 1, 3, none⟩ (.slice Av (doesV s q).length cv)).heap.size = w6.heap.size := by simp
      obtain ⟨W7, hW7⟩ : ∃ W7, W7 = (w6.setCell ⟨w.heap.size + 1 + 1 + 1 + 1, 2, none⟩ (.int .i64 (doesC s q))).setCell ⟨w.heap.size + 1 + 1 + 1 + 1, 3, none⟩ (.slice Av (doesV s q).length cv) := ⟨_, rfl⟩
      rw [← hW7] at H7 HR7 HST7 OR7 W7s ho8 hb8
      have hA8 := Lib.hid (show Below W7.heap.size W7 w8 from ((Below.refl _ _).alloc (Nat.le_refl _) _).trans (hb8.mono (by rw [World.size_alloc]; omega)))
      have H8 := Lib.hid (H7.out.later hA8.out)
      have HST8 := Lib.hid (HST7.out.below hA8.out)
      have OR8 := Lib.hid (OR7.out.below hA8.out)
      have HO8 := Lib.hid (ho8.lower (base' := w.heap.size) (by rw [World.size_alloc]; have := H7.out.bel.size; omega))
      have HR8 := Lib.hid (HR7.out.below hA8.out)
      have kE := Lib.hid (blk_later hb8 (heap_alloc_last W7 _))
      clear ho8 hb8
      rw [W7s] at kE
      clear a0 a1 a2 a3 x0 x1 x2 x3 t0 t1 t2 t3 t4 u0 u1 u2 u3 u4 v0 v1 v2 v3 v4 z4 z3 z2 z1 z0
      clear y0 y1 s0 s1 s2 s3 s4
      obtain ⟨a0, a1, a2, a3, _⟩ := four H8.out.k0
      obtain ⟨x0, x1, x2, x3⟩ := Req.facts H8.out.k1
      obtain ⟨t0, t1, t2, t3, t4⟩ := four H8.out.k2
      obtain ⟨u0, u1, u2, u3, u4⟩ := four H8.out.k3
      obtain ⟨v0, v1, v2, v3, v4⟩ := four H8.out.k4
      have z4 : w.heap.size + 1 + 1 + 1 + 1 < w8.heap.size := heap_lt H8.out.k4
      have z3 : w.heap.size + 1 + 1 + 1 < w8.heap.size := by omega
      have z2 : w.heap.size + 1 + 1 < w8.heap.size := by omega
      have z1 : w.heap.size + 1 < w8.heap.size := by omega
      have z0 : w.heap.size < w8.heap.size := by omega
      obtain ⟨s0, s1, s2, s3, s4⟩ := four HST8.out.blk
      obtain ⟨n0, n1, n2, n3, n4⟩ := four kE.out
      have ze : w6.heap.size < w8.heap.size := heap_lt kE.out
      obtain ⟨els, oE, lE, rE⟩ := OR8.out
      have hfl : findR s.reps q.client < els.length := by omega
      obtain ⟨g2, cs2, hA2, hg2, hbg2, hf2, ⟨p0, p1, p2, p3, q0, q1, q2, q3⟩, hs2⟩ := oE.put4 hfl
      subst hA2
      have OE8 := Lib.hid oE
      have RE8 := Lib.hid rE
      have hK := Lib.hid ((OR.out.reps))
      have hg24 : g2 < w4.heap.size := by
        obtain ⟨els', ho, _⟩ := OR.out
        exact (ho.base_le g2 rfl).2
      clear oE rE hs2 hK
      have z46 : w4.heap.size < w6.heap.size := heap_lt HST.out.blk
      have y0 : ¬ g2 = w6.heap.size := by omega
      have y1 : ¬ w6.heap.size = g2 := by omega
      have z9 : g2 < w8.heap.size := by omega
      go_wp2_with fail
      have z33 : w3.heap.size ≤ w4.heap.size := hwb34.out
      have z44 : w.heap.size + 1 + 1 + 1 + 1 < w4.heap.size := heap_lt H4.out.k4
      have z3' : w.heap.size + 1 + 1 + 1 + 1 < w3.heap.size := heap_lt H3.out.k4
      have z36 : w.heap.size + 1 + 1 + 1 + 1 < w6.heap.size := heap_lt H6.out.k4
      have zg : w.heap.size + 1 + 1 + 1 + 1 < g2 := by omega
      have OE9 := Lib.hid (show Own (w8.setCell ⟨w6.heap.size, 3, none⟩ (.slice Av8 (doesV s q).length cv8)) w3.heap.size 36 4 (.slice (some ⟨g2, 0, none⟩) s.reps.length cr2) els from
        OE8.out.keep fun k hk => Below.heap_setCell _ ⟨w6.heap.size, 3, none⟩ _ k (by have h : g2 = k := (by simpa [Value.ownBlock] using hk); show k ≠ w6.heap.size; omega))
      have RE9 := Lib.hid (show ∀ (k : Nat) (e : List Value) (r : Rp), els[k]? = some e → s.reps[k]? = some r → RepC (w8.setCell ⟨w6.heap.size, 3, none⟩ (.slice Av8 (doesV s q).length cv8)) (fun t => t = 9) e r from
        fun k e r he hr => (RE8.out k e r he hr).set kE.out (by decide) _ _)
      have H9 := Lib.hid (H8.out.setFar (g := w6.heap.size) (by omega) 3 (.slice Av8 (doesV s q).length cv8))
      have ST9 := Lib.hid (HST8.out.set kE.out (by omega) (by decide) (by decide) 3 (.slice Av8 (doesV s q).length cv8))
      have V9 := Lib.hid (HR8.out.set kE.out (by decide) 3 (.slice Av8 (doesV s q).length cv8))
      have O9 := Lib.hid (HO8.out.rowOf.set kE.out (by decide) 3 (.slice Av8 (doesV s q).length cv8))
      obtain ⟨w9, hw9⟩ : ∃ x, x = w8.setCell ⟨w6.heap.size, 3, none⟩ (.slice Av8 (doesV s q).length cv8) := ⟨_, rfl⟩
      rw [← hw9] at OE9 RE9 H9 ST9 V9 O9 ⊢
      clear hw9
      clear a0 a1 a2 a3 x0 x1 x2 x3 t0 t1 t2 t3 t4 u0 u1 u2 u3 u4 v0 v1 v2 v3 v4 z4 z3 z2 z1 z0
      clear s0 s1 s2 s3 s4 n0 n1 n2 n3 n4 q0 q1 q2 q3 hg2 hf2
      obtain ⟨g3, cs3, hA3, hg3, _, _, _, hs3⟩ := OE9.out.put4 hfl
      cases hA3
      have bk0 := blk_set hg3 (findR s.reps q.client * 4) (.int .i64 q.client)
      have bk1 := blk_set bk0 (findR s.reps q.client * 4 + 1) (.int .i64 q.num)
      have bk2 := blk_set bk1 (findR s.reps q.client * 4 + 2) (.int .i64 (doesC s q))
      have hAS := Lib.hid (applyS_new hgq.out hold.out)
      have hrs : (applyS s q).reps = s.reps.set (findR s.reps q.client) (newR s q) := by
        rw [hAS.out]
        show putR s.reps (newR s q) = _
        rw [putR, if_pos (by show hasR s.reps q.client = true; exact hh.out)]
        rfl
      have hlen : s.reps.length = (applyS s q).reps.length := by rw [hrs, List.length_set]
      have hc11 : (applyS s q).reps.length ≤ cr2 := by rw [← hlen]; exact c2
      have H12 := Lib.hid ((((H9.out.setFar zg (findR s.reps q.client * 4) (.int .i64 q.client)).setFar zg (findR s.reps q.client * 4 + 1) (.int .i64 q.num)).setFar zg (findR s.reps q.client * 4 + 2) (.int .i64 (doesC s q))).setFar zg (findR s.reps q.client * 4 + 3) (.slice Av8 (doesV s q).length cv8))
      have ST12 := Lib.hid ((((ST9.out.set hg3 (by omega) (by decide) (by decide) (findR s.reps q.client * 4) (.int .i64 q.client)).set bk0 (by omega) (by decide) (by decide) (findR s.reps q.client * 4 + 1) (.int .i64 q.num)).set bk1 (by omega) (by decide) (by decide) (findR s.reps q.client * 4 + 2) (.int .i64 (doesC s q))).set bk2 (by omega) (by decide) (by decide) (findR s.reps q.client * 4 + 3) (.slice Av8 (doesV s q).length cv8))
      have V12 := Lib.hid ((((V9.out.set hg3 (by decide) (findR s.reps q.client * 4) (.int .i64 q.client)).set bk0 (by decide) (findR s.reps q.client * 4 + 1) (.int .i64 q.num)).set bk1 (by decide) (findR s.reps q.client * 4 + 2) (.int .i64 (doesC s q))).set bk2 (by decide) (findR s.reps q.client * 4 + 3) (.slice Av8 (doesV s q).length cv8))
      have O12 := Lib.hid ((((O9.out.set hg3 (by decide) (findR s.reps q.client * 4) (.int .i64 q.client)).set bk0 (by decide) (findR s.reps q.client * 4 + 1) (.int .i64 q.num)).set bk1 (by decide) (findR s.reps q.client * 4 + 2) (.int .i64 (doesC s q))).set bk2 (by decide) (findR s.reps q.client * 4 + 3) (.slice Av8 (doesV s q).length cv8))
      have OR12 := Lib.hid (OwnReps.setAt (r := newR s q) lE (fun k e r he hr => ((((RE9.out k e r he hr).set hg3 (by decide) (findR s.reps q.client * 4) (.int .i64 q.client)).set bk0 (by decide) (findR s.reps q.client * 4 + 1) (.int .i64 q.num)).set bk1 (by decide) (findR s.reps q.client * 4 + 2) (.int .i64 (doesC s q))).set bk2 (by decide) (findR s.reps q.client * 4 + 3) (.slice Av8 (doesV s q).length cv8))
        ⟨Av8, cv8, rfl, hcv8, O12.out⟩ (hs3 (.int .i64 q.client) (.int .i64 q.num) (.int .i64 (doesC s q)) (.slice Av8 (doesV s q).length cv8)))
      rw [← hrs, hlen] at OR12
      have ST11 := Lib.hid (show (doesS s q).pairs.length ≤ cp6 ∧ (doesS s q).mbs.length ≤ cm6 from ⟨ST12.out.capP, ST12.out.capM⟩)
      have OP12 := Lib.hid ST12.out.ownP
      have OM12 := Lib.hid ST12.out.ownM
      have k9 := Lib.hid ST12.out.blk
      rw [hlen] at k9
      clear hs3 bk0 bk1 bk2 hg3 hlen hrs
      obtain ⟨w12, hw12⟩ : ∃ x, x = (((w9.setCell ⟨g2, findR s.reps q.client * 4, none⟩ (.int .i64 q.client)).setCell ⟨g2, findR s.reps q.client * 4 + 1, none⟩ (.int .i64 q.num)).setCell ⟨g2, findR s.reps q.client * 4 + 2, none⟩ (.int .i64 (doesC s q))).setCell ⟨g2, findR s.reps q.client * 4 + 3, none⟩ (.slice Av8 (doesV s q).length cv8) := ⟨_, rfl⟩
      rw [← hw12] at H12 k9 OP12 OM12 OR12 V12 ⊢
      clear hw12 ST12 O12
      obtain ⟨t0, t1, t2, t3, t4⟩ := four H12.out.k2
      obtain ⟨u0, u1, u2, u3, u4⟩ := four H12.out.k3
      obtain ⟨v0, v1, v2, v3, v4⟩ := four H12.out.k4
      obtain ⟨s0, s1, s2, s3, s4⟩ := four k9.out
      have y1 : ¬ w4.heap.size = w.heap.size + 1 + 1 := by omega
      have y2 : ¬ w4.heap.size = w.heap.size + 1 + 1 + 1 := by omega
      have y3 : ¬ w.heap.size + 1 + 1 = w4.heap.size := by omega
      have y4 : ¬ w.heap.size + 1 + 1 + 1 = w4.heap.size := by omega
      have y5 : ¬ w.heap.size + 1 + 1 = w.heap.size + 1 + 1 + 1 + 1 := by omega
      have y6 : ¬ w.heap.size + 1 + 1 + 1 = w.heap.size + 1 + 1 + 1 + 1 := by omega
      go_region_held3 (fun W => W.cell? ⟨w4.heap.size, 0, none⟩ = some (.slice Ap6 (doesS s q).pairs.length cp6) ∧ W.cell? ⟨w4.heap.size, 1, none⟩ = some (.slice (some ⟨g2, 0, none⟩) (applyS s q).reps.length cr2) ∧ W.cell? ⟨w4.heap.size, 2, none⟩ = some (.int .i64 (doesS s q).epoch) ∧ W.cell? ⟨w4.heap.size, 3, none⟩ = some (.slice Am6 (doesS s q).mbs.length cm6) ∧
          W.cell? ⟨w.heap.size + 1 + 1 + 1 + 1, 0, none⟩ = some (.int .i64 q.client) ∧ W.cell? ⟨w.heap.size + 1 + 1 + 1 + 1, 1, none⟩ = some (.int .i64 q.num) ∧ W.cell? ⟨w.heap.size + 1 + 1 + 1 + 1, 2, none⟩ = some (.int .i64 (doesC s q)) ∧ W.cell? ⟨w.heap.size + 1 + 1 + 1 + 1, 3, none⟩ = some (.slice Av (doesV s q).length cv)) (go_keep)
        (fail)
      go_wp2_with fail
      rw [store4 H12.out.k2]
      have k3' : (w12.setRow (w.heap.size + 1 + 1) #[.slice Ap6 (doesS s q).pairs.length cp6, .slice (some ⟨g2, 0, none⟩) (applyS s q).reps.length cr2, .int .i64 (doesS s q).epoch, .slice Am6 (doesS s q).mbs.length cm6]).heap[w.heap.size + 1 + 1 + 1]? = _ := (setRow_other _ _ _ _ (by omega)).trans H12.out.k3
      rw [store4 k3']
      have hgB := (heap_drew_eq _ _).trans (setRow_heap _ (w.heap.size + 1 + 1 + 1) _ #[.int .i64 q.client, .int .i64 q.num, .int .i64 (doesC s q), .slice Av (doesV s q).length cv] 36 (0, 0) k3')
      have hgA := (heap_drew_eq _ _).trans ((setRow_other _ (w.heap.size + 1 + 1 + 1) (w.heap.size + 1 + 1) #[.int .i64 q.client, .int .i64 q.num, .int .i64 (doesC s q), .slice Av (doesV s q).length cv] (by omega)).trans (setRow_heap w12 (w.heap.size + 1 + 1) _ #[.slice Ap6 (doesS s q).pairs.length cp6, .slice (some ⟨g2, 0, none⟩) (applyS s q).reps.length cr2, .int .i64 (doesS s q).epoch, .slice Am6 (doesS s q).mbs.length cm6] 28 (0, 0) H12.out.k2))
      refine bodyPost_ret (res_cc rfl _ _ (w.heap.size + 1 + 1) (w.heap.size + 1 + 1 + 1) 28 36 _ _ (0, 0) (0, 0) _ _ rfl hgA Tryd.underlying28 rfl size28 rfl hgB Tryd.underlying36 rfl size36) rfl ?_
      have hkk : ∀ k, k ≠ w.heap.size + 1 + 1 → k ≠ w.heap.size + 1 + 1 + 1 → ((w12.setRow (w.heap.size + 1 + 1) #[.slice Ap6 (doesS s q).pairs.length cp6, .slice (some ⟨g2, 0, none⟩) (applyS s q).reps.length cr2, .int .i64 (doesS s q).epoch, .slice Am6 (doesS s q).mbs.length cm6]).setRow (w.heap.size + 1 + 1 + 1) #[.int .i64 q.client, .int .i64 q.num, .int .i64 (doesC s q), .slice Av (doesV s q).length cv]).drew.heap[k]? = w12.heap[k]? := fun k h1 h2 => (heap_drew_eq _ _).trans ((setRow_other _ _ _ _ h2).trans (setRow_other _ _ _ _ h1))
      have hne : ∀ (b : Nat) (cs : Array Value) (t : TypeId) (fz : Nat × Nat), w12.heap[b]? = some (Obj.cells cs t fz) → t ≠ 28 → t ≠ 36 → b ≠ w.heap.size + 1 + 1 ∧ b ≠ w.heap.size + 1 + 1 + 1 := fun b cs t fz hb h1 h2 =>
        ⟨fun e => (by rw [e, H12.out.k2] at hb; cases hb; exact h1 rfl), fun e => (by rw [e, H12.out.k3] at hb; cases hb; exact h2 rfl)⟩
      have k9' := fun (b : Nat) (cs : Array Value) (fz : Nat × Nat) (hb : w12.heap[b]? = some (Obj.cells cs 9 fz)) => hkk b (hne b cs 9 fz hb (by decide) (by decide)).1 (hne b cs 9 fz hb (by decide) (by decide)).2
      have hAS := applyS_new hgq.out hold.out
      refine ⟨_, _, rfl, OwnSt.of (d := doesS s q) (by rw [hAS]) (by rw [hAS]) (by rw [hAS]) ST11.out.1 hc11 ST11.out.2
          (OP12.out.keep fun k hk => by obtain ⟨cells, hc⟩ := OP12.out.typed k hk; exact hkk k (hne k _ _ _ hc (by decide) (by decide)).1 (hne k _ _ _ hc (by decide) (by decide)).2)
          ((OR12.out.keepB (fun k hk => hkk k (by omega) (by omega)) k9').lower hwb)
          (OM12.out.keep fun k hk => by obtain ⟨cells, hc⟩ := OM12.out.typed k hk; exact hkk k (hne k _ _ _ hc (by decide) (by decide)).1 (hne k _ _ _ hc (by decide) (by decide)).2), ?_,
        (below_setRow (below_setRow H12.out.bel (by omega) _) (by omega) _).drew⟩
      rw [applyR_new hgq.out hold.out]
      exact ⟨Av, cv, rfl, hcv, V12.out.keep fun b cs t fz hb ht => by subst ht; exact k9' b cs fz hb⟩
end Go.Proofs.YtchnnplcpidkiaaDoor
