/-
  What the reading of an argument gives: rows of pairs, of answers, of members, of requests; a registry.
-/
import Derived.Test.YtchnnplcpidkiaaDoorAll
import Derived.Deep.Slices
import Derived.OpenShut
import Derived.Lib.SmallJoins
import Derived.SizedLaws
namespace Go.Proofs.YtchnnplcpidkiaaDoor
open Go.RowKit Go.Deep Go.ChangeShapes Go.WideShapes

section
variable {H : Type} {enc : TypeId × Value → H} {w : World} {base : Nat} {spare : Nat → Bool} {held : Bool}

theorem row_of_cells {a : Addr} {C : Nat} (hC : 0 < C) (els : List (List Value)) (h : ∀ k e, els[k]? = some e → w.cells? base (a.add (k * C)) C = some e) : Row w (fun _ => True) C (some a) els := by
  intro k e he
  have hs : a.spot = none := by
    have h0 : 0 < els.length := by have := (List.getElem?_eq_some_iff.1 he).1; omega
    obtain ⟨_, hl, hc⟩ := World.cells?_some (h 0 _ (List.getElem?_eq_getElem h0))
    have h1 := hc 0 hC
    rw [List.getElem?_eq_getElem (by omega), Nat.zero_mul] at h1
    have e1 : (a.add 0).add 0 = a := by simp [Addr.add]
    rw [e1] at h1
    unfold World.cell? at h1
    split at h1
    · split at h1
      · cases h1
      · rename_i hn
        simpa using hn
    · cases h1
  obtain ⟨hb, hl, hc⟩ := World.cells?_some (h k e he)
  have h0 := hc 0 hC
  rw [List.getElem?_eq_getElem (by omega), add_add] at h0
  obtain ⟨b, off, spot⟩ := a
  have hs : spot = none := hs
  subst hs
  have hb' : ∃ cs t fz, w.heap[b]? = some (.cells cs t fz) := by
    rw [add_plain] at h0
    unfold World.cell? at h0
    split at h0
    · rename_i c t f hh
      exact ⟨c, t, f, hh⟩
    · cases h0
  obtain ⟨cs, t, fz, hh⟩ := hb'
  refine ⟨b, off, t, cs, fz, rfl, hh, trivial, fun j u hu => ?_⟩
  have hj : j < C := by rw [← hl]; exact (List.getElem?_eq_some_iff.1 hu).1
  have := hc j hj
  rw [hu, add_add, add_plain, cell_of_row w b _ cs t fz hh] at this
  rw [Nat.add_assoc]
  exact this

theorem take_one {cs : List Value} {i : Nat} {v : Value} (h : (cs.drop i).take 1 = [v]) : cs[i]? = some v := by
  have := congrArg (fun l => l[0]?) h
  simpa [List.getElem?_take, List.getElem?_drop] using this

theorem reach_fits {n : Nat} (h : n ≤ reachBytes) : n ≤ 1152921504606846976 := Nat.le_trans h (by decide)
theorem i64_range {n : Int} (h : (Lit.int .i64 n).wf = true) : -9223372036854775808 ≤ n ∧ n ≤ 9223372036854775807 := by
  simp only [Lit.wf, Bool.and_eq_true, decide_eq_true_eq] at h
  exact ⟨Int.le_trans (by decide) h.1, Int.le_trans h.2 (by decide)⟩

/-- A datum whose parts are as long as a machine's memory lets them be. -/
def Fit (t : TypeId) (d : DataW H) : Prop := ∀ n ∈ d.weights Tryd.prog t, n ≤ reachBytes
theorem Fit.fld {t : TypeId} {fs : Array Field} {ds : List (DataW H)} (hu : Tryd.prog.underlying t = some (.struct fs)) (h : Fit t (.agg ds)) {i : Nat} {f : Field} {d : DataW H} (hf : fs[i]? = some f) (hd : ds[i]? = some d) : Fit f.type d := fun n hn => by
  refine h n ?_
  simp only [DataW.weights, hu]
  exact DataW.weights_mem_each (j := i) (by simp [hf]) hd n hn
theorem weights_mem_all {P : Program} {e : TypeId} : ∀ {l : List (DataW H)} {d : DataW H}, d ∈ l → ∀ n ∈ d.weights P e, n ∈ DataW.weightsAll P e l
  | x :: l, d, hd, n, hn => by
    simp only [DataW.weightsAll, List.mem_append]
    rcases List.mem_cons.1 hd with rfl | hd
    · exact .inl hn
    · exact .inr (weights_mem_all hd n hn)
theorem Fit.elem {t e : TypeId} {l r : List (DataW H)} (hu : Tryd.prog.underlying t = some (.slice e)) (h : Fit t (.slice l r)) {d : DataW H} (hd : d ∈ l) : Fit e d := fun n hn => by
  refine h n ?_
  simp only [DataW.weights, hu]
  exact List.mem_cons_of_mem _ (List.mem_append_left _ (weights_mem_all hd n hn))

/-- One field that is a number, one that is a text. -/
theorem fld_int {fuel i : Nat} {cs : List Value} {x : DataW H × List MemPlace} (h : DataW.trod enc Tryd.prog w base spare held fuel 3 ((cs.drop i).take (Tryd.prog.cellsOf 3)) = some x) :
    ∃ n, cs[i]? = some (.int .i64 n) ∧ -9223372036854775808 ≤ n ∧ n ≤ 9223372036854775807 := by
  rw [show Tryd.prog.cellsOf 3 = 1 from by kernel_rfl] at h
  obtain ⟨n, h1, _, h2⟩ := DataW.trod_int Tryd.underlying3 h
  exact ⟨n, take_one h1, i64_range h2⟩
theorem fld_err {fuel i : Nat} {cs : List Value} {x : DataW H × List MemPlace} (h : DataW.trod enc Tryd.prog w base spare held fuel 33 ((cs.drop i).take (Tryd.prog.cellsOf 33)) = some x) :
    ∃ n, cs[i]? = some (.int .i64 n) ∧ -9223372036854775808 ≤ n ∧ n ≤ 9223372036854775807 := by
  rw [show Tryd.prog.cellsOf 33 = 1 from by kernel_rfl] at h
  obtain ⟨n, h1, _, h2⟩ := DataW.trod_int Tryd.underlying33 h
  exact ⟨n, take_one h1, i64_range h2⟩
theorem str_fit {s : ByteArray} (h : Fit (H := H) 9 (.lit (.string s.data.toList))) : s.size ≤ 1152921504606846976 := by
  refine reach_fits ?_
  have := h s.data.toList.length (by simp [DataW.weights])
  simpa using this
theorem fld_str {fuel i : Nat} {cs : List Value} {x : DataW H × List MemPlace} (h : DataW.trod enc Tryd.prog w base spare held fuel 9 ((cs.drop i).take (Tryd.prog.cellsOf 9)) = some x) (hf : Fit 9 x.1) :
    ∃ s : ByteArray, cs[i]? = some (.string s) ∧ s.size ≤ 1152921504606846976 := by
  rw [show Tryd.prog.cellsOf 9 = 1 from by kernel_rfl] at h
  obtain ⟨s, h1, rfl, _⟩ := DataW.trod_string Tryd.underlying9 h
  exact ⟨s, take_one h1, str_fit hf⟩

theorem list2 {cs : List Value} {a b : Value} (hl : cs.length = 2) (h0 : cs[0]? = some a) (h1 : cs[1]? = some b) : cs = [a, b] := by
  match cs, hl with
  | [x, y], _ => simp only [List.getElem?_cons_zero, List.getElem?_cons_succ, Option.some.injEq] at h0 h1; rw [h0, h1]
theorem list4 {cs : List Value} {a b c d : Value} (hl : cs.length = 4) (h0 : cs[0]? = some a) (h1 : cs[1]? = some b) (h2 : cs[2]? = some c) (h3 : cs[3]? = some d) : cs = [a, b, c, d] := by
  match cs, hl with
  | [x, y, z, u], _ => simp only [List.getElem?_cons_zero, List.getElem?_cons_succ, Option.some.injEq] at h0 h1 h2 h3; rw [h0, h1, h2, h3]

theorem open_pr {fuel : Nat} {cs : List Value} {x : DataW H × List MemPlace} (h : DataW.trod enc Tryd.prog w base spare held fuel 42 cs = some x) (hf : Fit 42 x.1) :
    ∃ p : Pr, cs = p.cells ∧ p.key.size ≤ 1152921504606846976 ∧ p.val.size ≤ 1152921504606846976 := by
  obtain ⟨y0, y1, n, rfl, hl, h0, h1⟩ := trod_struct2 Tryd.underlying42 h
  rw [show Tryd.prog.cellsOf 42 = 2 from by kernel_rfl] at hl
  obtain ⟨k, c0, z0⟩ := fld_str h0 (Fit.fld Tryd.underlying42 hf (i := 0) rfl rfl)
  obtain ⟨v, c1, z1⟩ := fld_str h1 (Fit.fld Tryd.underlying42 hf (i := 1) rfl rfl)
  exact ⟨⟨k, v⟩, list2 hl c0 c1, z0, z1⟩

/-- A slice whose elements go by f. -/
theorem open_els {α : Type} [Inhabited α] {t e : TypeId} {C fuel i : Nat} {cs : List Value} {x : DataW H × List MemPlace} (hu : Tryd.prog.underlying t = some (.slice e)) (h1 : Tryd.prog.cellsOf t = 1) (hc : Tryd.prog.cellsOf e = C) (hC : 0 < C)
    (h : DataW.trod enc Tryd.prog w base spare held fuel t ((cs.drop i).take (Tryd.prog.cellsOf t)) = some x) (hf : Fit t x.1) (R : α → List Value → Prop)
    (each : ∀ (n : Nat) (cs : List Value) (y : DataW H × List MemPlace), DataW.trod enc Tryd.prog w base spare held n e cs = some y → Fit e y.1 → ∃ a, R a cs) :
    ∃ (zs : List α) (els : List (List Value)) (A : Option Addr) (c : Nat), cs[i]? = some (.slice A zs.length c) ∧ zs.length ≤ c ∧ els.length = zs.length ∧ Row w (fun _ => True) C A els ∧ ∀ (k : Nat) (a : α) (e : List Value), zs[k]? = some a → els[k]? = some e → R a e := by
  rw [h1] at h
  rcases open_slice hu h with ⟨h0, _⟩ | ⟨a, len, cap, m, n, D, Pl, h0, hb, hl, _, hm, rfl, hx⟩
  · exact ⟨[], [], none, 0, take_one h0, Nat.le_refl _, rfl, Row.nil _ _ _ _, fun k a e ha => by simp at ha⟩
  · have hlm : len ≤ m := by rw [hm]; split <;> omega
    rw [hc] at hx
    obtain ⟨E, hE⟩ := choose_lt (α := List Value) (n := len) (p := fun i cs => w.cells? base (a.add (i * C)) C = some cs ∧ DataW.trod enc Tryd.prog w base spare held n e cs = some (D i, Pl i)) fun i hi => hx i (by omega)
    obtain ⟨S, hS⟩ := choose_lt (α := α) (n := len) (p := fun i s => R s (E i)) fun i hi => each n (E i) _ (hE i hi).2 (Fit.elem hu hf (List.mem_map.2 ⟨i, List.mem_range.2 hi, rfl⟩))
    refine ⟨(List.range len).map S, (List.range len).map E, some a, cap, by simpa using take_one h0, by simpa using hl, by simp, row_of_cells (base := base) hC _ fun k e he => ?_, fun k s e hs he => ?_⟩
    · have hk : k < len := by have := (List.getElem?_eq_some_iff.1 he).1; simpa using this
      simp [hk] at he
      rw [← he]
      exact (hE k hk).1
    · have hk : k < len := by have := (List.getElem?_eq_some_iff.1 he).1; simpa using this
      simp [hk] at he hs
      rw [← he, ← hs]
      exact hS k hk
theorem els_map {α : Type} {zs : List α} {els : List (List Value)} {f : α → List Value} (hl : els.length = zs.length) (h : ∀ (k : Nat) (a : α) (e : List Value), zs[k]? = some a → els[k]? = some e → e = f a) : els = zs.map f := by
  apply List.ext_getElem?
  intro k
  by_cases hk : k < zs.length
  · rw [List.getElem?_map, List.getElem?_eq_getElem hk, List.getElem?_eq_getElem (by omega)]
    exact congrArg some (h k _ _ (List.getElem?_eq_getElem hk) (List.getElem?_eq_getElem (by omega)))
  · rw [List.getElem?_eq_none (by omega), List.getElem?_eq_none (by simp; omega)]

/-- A list of texts. -/
theorem open_txts {fuel i : Nat} {cs : List Value} {x : DataW H × List MemPlace} (h : DataW.trod enc Tryd.prog w base spare held fuel 34 ((cs.drop i).take (Tryd.prog.cellsOf 34)) = some x) (hf : Fit 34 x.1) :
    ∃ (vs : List ByteArray) (A : Option Addr) (c : Nat), cs[i]? = some (.slice A vs.length c) ∧ vs.length ≤ c ∧ Row w (fun _ => True) 1 A (vs.map strC) ∧ ∀ k, k < vs.length → (strOf vs k).size ≤ 1152921504606846976 := by
  obtain ⟨vs, els, A, c, h1, h2, h3, h4, h5⟩ := open_els (α := ByteArray) (C := 1) Tryd.underlying34 (by kernel_rfl) (by kernel_rfl) (by decide) h hf (fun s cs => cs = strC s ∧ s.size ≤ 1152921504606846976) fun n cs y hy hfy => by
    obtain ⟨s, e1, rfl, _⟩ := DataW.trod_string Tryd.underlying9 hy
    exact ⟨s, e1, str_fit hfy⟩
  refine ⟨vs, A, c, h1, h2, ?_, fun k hk => ?_⟩
  · rw [← els_map h3 fun k a e ha he => (h5 k a e ha he).1]; exact h4
  · have e1 : vs[k]? = some (strOf vs k) := by simp [strOf, List.getD_eq_getElem?_getD, hk]
    exact (h5 k _ _ e1 (List.getElem?_eq_getElem (by omega))).2

theorem open_rp {fuel : Nat} {cs : List Value} {x : DataW H × List MemPlace} (h : DataW.trod enc Tryd.prog w base spare held fuel 36 cs = some x) (hf : Fit 36 x.1) :
    ∃ r : Rp, RepC w (fun _ => True) cs r ∧ (∀ k, k < r.vals.length → (strOf r.vals k).size ≤ 1152921504606846976) := by
  obtain ⟨y0, y1, y2, y3, n, rfl, hl, h0, h1, h2, h3⟩ := Joins.trod_struct4 Tryd.underlying36 h
  rw [show Tryd.prog.cellsOf 36 = 4 from by kernel_rfl] at hl
  obtain ⟨a, c0, _⟩ := fld_int h0
  obtain ⟨b, c1, _⟩ := fld_int h1
  obtain ⟨c, c2, _⟩ := fld_err h2
  obtain ⟨vs, A, d, c3, hd, hr, hz⟩ := open_txts h3 (Fit.fld Tryd.underlying36 hf (i := 3) rfl rfl)
  exact ⟨⟨a, b, c, vs⟩, ⟨A, d, list4 hl c0 c1 c2 c3, hd, hr⟩, hz⟩

/-- A digest. -/
theorem open_root {fuel : Nat} {cs : List Value} {x : DataW H × List MemPlace} (h : DataW.trod enc Tryd.prog w base spare held fuel 48 cs = some x) : ∃ r : Vector Int 32, cs = r.toList.map (Value.int .u8) := by
  obtain ⟨xs, m, _, _, hl, hlen, hx⟩ := DataW.trod_array Tryd.underlying48 h
  rw [cells48] at hl
  rw [show Tryd.prog.cellsOf 5 = 1 from by kernel_rfl] at hx
  have each : ∀ i, i < 32 → ∃ n : Int, cs[i]? = some (.int .u8 n) := fun i hi => by
    have hy := hx i hi
    rw [List.getElem?_eq_getElem (by omega), Nat.mul_one] at hy
    obtain ⟨n, h1, _, _⟩ := DataW.trod_int Tryd.underlying5 hy
    exact ⟨n, take_one h1⟩
  obtain ⟨f, hf⟩ := choose_lt each
  refine ⟨Vector.ofFn fun i => f i.val, List.ext_getElem? fun i => ?_⟩
  by_cases hi : i < 32
  · rw [hf i hi]
    simp [hi]
  · rw [List.getElem?_eq_none (by omega), List.getElem?_eq_none (by simp; omega)]
theorem open_key {fuel : Nat} {cs : List Value} {x : DataW H × List MemPlace} (h : DataW.trod enc Tryd.prog w base spare held fuel 50 cs = some x) : ∃ (r : Vector Int 32) (g : Int), cs = nodeC r g := by
  obtain ⟨y0, y1, n, _, hl, h0, h1⟩ := trod_struct2 Tryd.underlying50 h
  rw [cells50] at hl
  obtain ⟨r, hr⟩ := open_root h0
  obtain ⟨g, hg, _⟩ := fld_int h1
  refine ⟨r, g, ?_⟩
  rw [show Tryd.prog.cellsOf 48 = 32 from cells48] at hr
  rw [nodeC, ← hr]
  apply List.ext_getElem?
  intro i
  rcases Nat.lt_trichotomy i 32 with hi | hi | hi
  · rw [List.getElem?_append_left (by simp; omega)]
    simp [List.getElem?_take, hi]
  · subst hi
    rw [List.getElem?_append_right (by simp; omega)]
    simp only [List.length_take, Nat.sub_self, List.drop_zero, hl, Nat.reduceLeDiff, Nat.min_eq_left]
    exact hg
  · rw [List.getElem?_eq_none (by omega), List.getElem?_eq_none (by simp; omega)]
theorem open_mb {fuel : Nat} {cs : List Value} {x : DataW H × List MemPlace} (h : DataW.trod enc Tryd.prog w base spare held fuel 84 cs = some x) : ∃ m : Mb, cs = m.cells ∧ -9223372036854775808 ≤ m.id ∧ m.id ≤ 9223372036854775807 := by
  obtain ⟨y0, y1, n, _, hl, h0, h1⟩ := trod_struct2 Tryd.underlying84 h
  rw [show Tryd.prog.cellsOf 84 = 34 from by kernel_rfl] at hl
  obtain ⟨a, ha, hra⟩ := fld_int h0
  obtain ⟨r, g, hk⟩ := open_key h1
  refine ⟨⟨a, r, g⟩, ?_, hra⟩
  rw [cells50] at hk
  rw [Mb.node]
  show cs = .int .i64 a :: nodeC r g
  rw [← hk]
  cases cs with
  | nil => simp at hl
  | cons c cs' =>
    have ha' : (c :: cs')[0]? = some (.int .i64 a) := ha
    simp only [List.getElem?_cons_zero, Option.some.injEq] at ha'
    simp only [List.length_cons] at hl
    rw [ha']
    show Value.int .i64 a :: cs' = Value.int .i64 a :: (cs'.drop 0).take 33
    rw [List.drop_zero, List.take_of_length_le (by omega)]

structure OS (w : World) (cs : List Value) (s : St) : Prop where
  ex : ∃ Ap cp Ar cr Am cm, cs = [.slice Ap s.pairs.length cp, .slice Ar s.reps.length cr, .int .i64 s.epoch, .slice Am s.mbs.length cm] ∧ SV w Ap Ar Am s
  sz : SZ s
  ep : -9223372036854775808 ≤ s.epoch ∧ s.epoch ≤ 9223372036854775807
  id : ∀ m ∈ s.mbs, -9223372036854775808 ≤ m.id ∧ m.id ≤ 9223372036854775807
theorem open_st {fuel : Nat} {cs : List Value} {x : DataW H × List MemPlace} (h : DataW.trod enc Tryd.prog w base spare held fuel 28 cs = some x) (hf : Fit 28 x.1) : ∃ s : St, OS w cs s := by
  obtain ⟨y0, y1, y2, n, rfl, hl, h0, h1, h2⟩ := trod_struct3 Tryd.underlying28 h
  rw [show Tryd.prog.cellsOf 28 = 4 from by kernel_rfl] at hl
  have hf2 := Fit.fld Tryd.underlying28 hf (i := 2) rfl rfl
  obtain ⟨z0, z1, n', hz, hl2, k0, k1⟩ := trod_struct2 Tryd.underlying26 h2
  rw [hz] at hf2
  obtain ⟨ps, pe, Ap, cp, p1, p2, p3, p4, p5⟩ := open_els (α := Pr) (C := 2) Tryd.underlying22 (by kernel_rfl) (by kernel_rfl) (by decide) h0 (Fit.fld Tryd.underlying28 hf (i := 0) rfl rfl)
    (fun p cs => cs = p.cells ∧ p.key.size ≤ 1152921504606846976 ∧ p.val.size ≤ 1152921504606846976) fun n cs y hy hfy => open_pr hy hfy
  obtain ⟨rs, re, Ar, cr, r1, r2, r3, r4, r5⟩ := open_els (α := Rp) (C := 4) Tryd.underlying23 (by kernel_rfl) (by kernel_rfl) (by decide) h1 (Fit.fld Tryd.underlying28 hf (i := 1) rfl rfl)
    (fun r cs => RepC w (fun _ => True) cs r ∧ (∀ k, k < r.vals.length → (strOf r.vals k).size ≤ 1152921504606846976)) fun n cs y hy hfy => open_rp hy hfy
  obtain ⟨ep, e1, e2⟩ := fld_int k0
  obtain ⟨ms, me, Am, cm, m1, m2, m3, m4, m5⟩ := open_els (α := Mb) (C := 34) Tryd.underlying24 (by kernel_rfl) (by kernel_rfl) (by decide) k1 (Fit.fld Tryd.underlying26 hf2 (i := 1) rfl rfl)
    (fun m cs => cs = m.cells ∧ -9223372036854775808 ≤ m.id ∧ m.id ≤ 9223372036854775807) fun n cs y hy hfy => open_mb hy
  rw [show Tryd.prog.cellsOf 26 = 2 from by kernel_rfl] at e1 m1
  have c2 : cs[2]? = some (.int .i64 ep) := by simpa [List.getElem?_take, List.getElem?_drop] using e1
  have c3 : cs[3]? = some (.slice Am ms.length cm) := by simpa [List.getElem?_take, List.getElem?_drop] using m1
  refine ⟨⟨ps, rs, ep, ms⟩, ⟨Ap, cp, Ar, cr, Am, cm, list4 hl p1 r1 c2 c3, ?_, ?_, ?_⟩, ⟨fun k hk => ?_, fun k hk => ?_⟩, e2, fun m hm => ?_⟩
  · rw [← els_map p3 fun k a e ha he => (p5 k a e ha he).1]; exact p4
  · exact ⟨re, r3, r4, fun k e r he hr => (r5 k r e hr he).1⟩
  · rw [← els_map m3 fun k a e ha he => (m5 k a e ha he).1]; exact m4
  · have hk' : k < ps.length := hk
    have := (p5 k ps[k] pe[k] (List.getElem?_eq_getElem hk') (List.getElem?_eq_getElem (by omega))).2
    have e1 : keyOf ps k = ps[k].key := by simp [keyOf, List.getD_eq_getElem?_getD, hk']
    have e2 : valOf ps k = ps[k].val := by simp [valOf, List.getD_eq_getElem?_getD, hk']
    rw [e1, e2]; exact this
  · have hk' : k < rs.length := hk
    have e1 : rs[k]? = some (repOf rs k) := by simp [repOf, List.getD_eq_getElem?_getD, hk']
    exact (r5 k _ re[k] e1 (List.getElem?_eq_getElem (by omega))).2
  · obtain ⟨k, hk, rfl⟩ := List.getElem_of_mem hm
    have hk' : k < ms.length := hk
    exact (m5 k ms[k] me[k] (List.getElem?_eq_getElem hk') (List.getElem?_eq_getElem (by omega))).2
end
end Go.Proofs.YtchnnplcpidkiaaDoor
