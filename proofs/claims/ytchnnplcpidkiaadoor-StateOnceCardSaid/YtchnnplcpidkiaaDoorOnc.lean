/-
  The walk of StateOnce: whatever the registry, the request, what is asked between and the next one: it returns true.
-/
import Derived.Test.YtchnnplcpidkiaaDoorFrm
import Derived.Test.YtchnnplcpidkiaaDoorPlw
import Derived.Test.YtchnnplcpidkiaaDoorLit
namespace Go.Proofs.YtchnnplcpidkiaaDoor
open Go.RowKit

/-! ### the plain law -/
/-- The client's last answer is that one, to that request. -/
structure Rec (x : St) (a : Rp) (q : Req) : Prop where
  rise : risesS x = true
  mem : a ∈ x.reps
  cl : a.client = q.client
  nm : a.num = q.num
theorem doesC_8 (s : St) (q : Req) : doesC s q ≠ 8 := by
  have h1 : ∀ (c : Prop) [Decidable c] (x y : Int), x ≠ 8 → y ≠ 8 → (if c then x else y) ≠ 8 := fun c _ x y hx hy => by split <;> assumption
  unfold doesC putC cfgCode
  repeat' (first | apply h1 | decide)
theorem once_old {s : St} {q : Req} (h : (applyR s q).code = 8) : applyS s q = s := by
  cases ha : act s q
  · exact apply_idle ha
  · rw [(apply_act ha).2] at h
    exact absurd h (doesC_8 s q)
theorem once_rec {s : St} {q : Req} (hr : risesS s = true) (hg : goodQ q = true) (h : (applyR s q).code ≠ 8) : Rec (applyS s q) (applyR s q) q := by
  obtain ⟨h1, h2⟩ := rises_iff.1 hr
  cases ha : act s q
  · have ho : oldQ s q = true := by
      cases ho : oldQ s q
      · rw [act, hg, ho] at ha; cases ha
      · rfl
    have hh : hasR s.reps q.client = true := by rw [oldQ, Bool.and_eq_true] at ho; exact ho.1
    by_cases hn : q.num = (repOf s.reps (findR s.reps q.client)).num
    · rw [apply_idle ha, applyR_same hg ho hn, lastR, if_pos hh]
      obtain ⟨m1, m2⟩ := hasR_mem hh
      exact ⟨hr, m1, m2, hn.symm⟩
    · rw [applyR_less hg ho hn] at h
      exact absurd rfl h
  · have hx := apply_rises hr q
    obtain ⟨e1, e2⟩ := apply_act ha
    refine ⟨hx, ?_, ?_, ?_⟩
    · rw [e1, e2]; exact ((putR_law h2 (newR s q)).2 _).2 (.inl rfl)
    · rw [e2]; rfl
    · rw [e2]; rfl
theorem once_keep {x : St} {a : Rp} {q o : Req} (h : Rec x a q) (ho : o.client ≠ q.client) : Rec (applyS x o) a q := by
  obtain ⟨h1, h2⟩ := rises_iff.1 h.rise
  cases ha : act x o
  · rw [apply_idle ha]; exact h
  · refine ⟨apply_rises h.rise o, ?_, h.cl, h.nm⟩
    rw [(apply_act ha).1]
    exact ((putR_law h2 (newR x o)).2 _).2 (.inr ⟨h.mem, fun e => ho (by rw [← h.cl, e]; rfl)⟩)
theorem Rec.has {x : St} {a : Rp} {q : Req} (h : Rec x a q) : hasR x.reps q.client = true ∧ repOf x.reps (findR x.reps q.client) = a := by
  have := hasR_at' (rises_iff.1 h.rise).2 h.mem
  rw [h.cl] at this
  exact this
theorem once_same {x : St} {a : Rp} {q : Req} (h : Rec x a q) (hg : goodQ q = true) : applyS x q = x ∧ applyR x q = a := by
  obtain ⟨h1, h2⟩ := h.has
  have ho : oldQ x q = true := by rw [oldQ, h1, h2, h.nm]; simp
  exact ⟨applyS_old hg ho, by rw [applyR_same hg ho (by rw [h2, h.nm]), lastR, if_pos h1, h2]⟩
theorem once_next {x : St} {a : Rp} {q nx : Req} (h : Rec x a q) (hg : goodQ nx = true) (hc : nx.client = q.client) (hn : q.num < nx.num) :
    ∃ r, Rec (applyS x nx) r nx := by
  obtain ⟨h1, h2⟩ := h.has
  have ho : oldQ x nx = false := by rw [oldQ, hc, h1, h2, h.nm]; simp; omega
  have ha : act x nx = true := act_iff.2 ⟨hg, ho⟩
  refine ⟨newR x nx, apply_rises h.rise nx, ?_, rfl, rfl⟩
  rw [(apply_act ha).1]
  exact ((putR_law (rises_iff.1 h.rise).2 (newR x nx)).2 _).2 (.inl rfl)
theorem once_end {y : St} {r : Rp} {q nx : Req} (h : Rec y r nx) (hg : goodQ q = true) (hc : nx.client = q.client) (hn : q.num < nx.num) :
    applyS y q = y ∧ applyR y q = ⟨q.client, q.num, 8, []⟩ := by
  obtain ⟨h1, h2⟩ := h.has
  rw [hc] at h1 h2
  have ho : oldQ y q = true := by rw [oldQ, h1, h2, h.nm]; simp; omega
  exact ⟨applyS_old hg ho, applyR_less hg ho (by rw [h2, h.nm]; omega)⟩
def nextQ (nx q : Req) : Req := { nx with client := q.client }
theorem nextQ_good {nx q : Req} (h1 : goodQ nx = true) (h2 : goodQ q = true) : goodQ (nextQ nx q) = true := by
  simp only [goodQ, Bool.and_eq_true, decide_eq_true_eq] at h1 h2 ⊢
  exact ⟨⟨h2.1.1, h2.1.2.1, h1.1.2.2⟩, h1.2⟩
theorem nextQ_arr (nx q : Req) : nx.arr.setIfInBounds 0 (.int .i64 q.client) = (nextQ nx q).arr := by
  simp [Req.arr, Req.cells, nextQ]

theorem rz_two {q nx : Req} (h : q.key.size ≤ 1152921504606846976 ∧ q.val.size ≤ 1152921504606846976 ∧ q.old.size ≤ 1152921504606846976)
    (h' : nx.key.size ≤ 1152921504606846976 ∧ nx.val.size ≤ 1152921504606846976 ∧ nx.old.size ≤ 1152921504606846976) : RZ [q, nx] := fun k hk => by
  match k, hk with
  | 0, _ => exact h
  | 1, _ => exact h'

/-! ### the walk -/
structure OnI (w wr : World) (X B1 B2 : Nat) (q ny : Req) (Av : Option Addr) (cv : Nat) (a : Rp) (Ap : Option Addr) (cp : Nat) (Ar : Option Addr) (cr : Nat) (Am : Option Addr) (cm : Nat) (st : St) : Prop where
  out : wr.heap[X]? = some (.cells #[.slice Ap st.pairs.length cp, .slice Ar st.reps.length cr, .int .i64 st.epoch, .slice Am st.mbs.length cm] 28 (0, 0))
  sx : SX (fun k => k = X) wr Ap Ar Am st
  ab : wr.heap[X + 1]? = some (.cells #[.int .i64 a.client, .int .i64 a.num, .int .i64 a.code, .slice Av a.vals.length cv] 36 (0, 0))
  av : Row wr (fun t => t = 9) 1 Av (a.vals.map strC)
  k1 : wr.heap[B1]? = some (.cells q.arr 56 (0, 0))
  k2 : wr.heap[B2]? = some (.cells ny.arr 56 (0, 0))
  bel : Below w.heap.size w wr
theorem OnI.later {w wr w' : World} {X B1 B2 : Nat} {q ny : Req} {Av : Option Addr} {cv : Nat} {a : Rp} {Ap : Option Addr} {cp : Nat} {Ar : Option Addr} {cr : Nat} {Am : Option Addr} {cm : Nat} {st : St} (h : OnI w wr X B1 B2 q ny Av cv a Ap cp Ar cr Am cm st) (hb : Below wr.heap.size wr w') :
    OnI w w' X B1 B2 q ny Av cv a Ap cp Ar cr Am cm st :=
  ⟨blk_later hb h.out, h.sx.below hb, blk_later hb h.ab, h.av.below hb, blk_later hb h.k1, blk_later hb h.k2, h.bel.trans (hb.mono h.bel.size)⟩
theorem OnI.set {w wr : World} {X B1 B2 : Nat} {q ny : Req} {Av : Option Addr} {cv : Nat} {a : Rp} {Ap : Option Addr} {cp : Nat} {Ar : Option Addr} {cr : Nat} {Am : Option Addr} {cm : Nat} {st : St} (h : OnI w wr X B1 B2 q ny Av cv a Ap cp Ar cr Am cm st)
    (hX : w.heap.size ≤ X) (n1 : B1 < X) (n2 : B2 < X) {Bp : Option Addr} {dp : Nat} {Br : Option Addr} {dr : Nat} {Bm : Option Addr} {dm : Nat} {s' : St} (hs : SX (fun k => k = X) wr Bp Br Bm s') :
    OnI w (wr.setRow X #[.slice Bp s'.pairs.length dp, .slice Br s'.reps.length dr, .int .i64 s'.epoch, .slice Bm s'.mbs.length dm]) X B1 B2 q ny Av cv a Bp dp Br dr Bm dm s' :=
  ⟨setRow_heap wr X _ _ 28 (0, 0) h.out, hs.go (AgV.setRow (V := fun k => k = X) wr rfl _), (setRow_other _ _ _ _ (by omega)).trans h.ab,
    h.av.keep (fun b cs t fz hb ht => setRow_other wr X b _ (fun e => by subst e; subst ht; rw [h.out] at hb; cases hb)),
    (setRow_other _ _ _ _ (by omega)).trans h.k1, (setRow_other _ _ _ _ (by omega)).trans h.k2, below_setRow h.bel hX _⟩

set_option maxHeartbeats 4000000 in
set_option maxRecDepth 100000 in
theorem once_any (Ap Ar Am : Option Addr) (cp cr cm : Nat) (s : St) (q : Req) (T : TypeId → Prop) (A : Option Addr) (n c : Nat) (qs : List Req) (nx : Req) (w : World)
    (h : SV w Ap Ar Am s) (hz : SZ s) (hep : -9223372036854775808 ≤ s.epoch ∧ s.epoch ≤ 9223372036854775807) (hid : ∀ m ∈ s.mbs, -9223372036854775808 ≤ m.id ∧ m.id ≤ 9223372036854775807)
    (hq : q.key.size ≤ 1152921504606846976 ∧ q.val.size ≤ 1152921504606846976 ∧ q.old.size ≤ 1152921504606846976)
    (hn : qs.length = n) (hr : Row w T 42 A (qs.map Req.cells)) (hrz : RZ qs)
    (hx : nx.key.size ≤ 1152921504606846976 ∧ nx.val.size ≤ 1152921504606846976 ∧ nx.old.size ≤ 1152921504606846976) (ht : Tab w.heap.size w) :
    Calls Tryd.prog 4 #[SV.val Ap cp Ar cr Am cm s, .agg q.arr, .slice A n c, .agg nx.arr] w (AlivePost w) := by
  have HA := Lib.hid h
  have HZ := Lib.hid hz
  have HEP := Lib.hid hep
  have HID := Lib.hid hid
  have HQZ := Lib.hid hq
  have HXZ := Lib.hid hx
  have HN := Lib.hid hn
  have HR := Lib.hid hr
  have HRZ := Lib.hid hrz
  have HT := Lib.hid ht
  clear h hz hep hid hn hr hrz ht hq hx
  have HB0 := Lib.hid (show Below w.heap.size w (((w.alloc (.cells #[.slice Ap s.pairs.length cp, .slice Ar s.reps.length cr, .int .i64 s.epoch, .slice Am s.mbs.length cm] 28)).alloc (.cells q.arr 56)).alloc (.cells nx.arr 56)) from (((Below.refl _ _).alloc (Nat.le_refl _) _).alloc (by rw [World.size_alloc]; omega) _).alloc (by simp only [World.size_alloc]; omega) _)
  have k0 := at3_0 w (.cells #[.slice Ap s.pairs.length cp, .slice Ar s.reps.length cr, .int .i64 s.epoch, .slice Am s.mbs.length cm] 28) (.cells q.arr 56) (.cells nx.arr 56)
  have k1 := at3_1 w (.cells #[.slice Ap s.pairs.length cp, .slice Ar s.reps.length cr, .int .i64 s.epoch, .slice Am s.mbs.length cm] 28) (.cells q.arr 56) (.cells nx.arr 56)
  have k2 := at3_2 w (.cells #[.slice Ap s.pairs.length cp, .slice Ar s.reps.length cr, .int .i64 s.epoch, .slice Am s.mbs.length cm] 28) (.cells q.arr 56) (.cells nx.arr 56)
  go_enter Tryd.func4, Tryd.ntmps4
  go_wp2_with fail
  refine (alive_any _ ((HT.out.below HB0.out).mono (by simp only [World.size_alloc]; omega))).mono ?_
  rintro e w1 ⟨rfl, hb1⟩
  have HB1 := Lib.hid (HB0.out.trans (hb1.mono (by simp only [World.size_alloc]; omega)))
  have K0 := Lib.hid (blk_later hb1 k0)
  have K1 := Lib.hid (blk_later hb1 k1)
  have K2 := Lib.hid (blk_later hb1 k2)
  clear hb1 k0 k1 k2 HB0
  obtain ⟨a0, a1, a2, a3, a4⟩ := four K0.out
  have z0 : w.heap.size < w1.heap.size := heap_lt K0.out
  go_wp2_with fail
  refine (great_any Ap Ar Am _ cp _ cr _ cm s.epoch s.pairs s.reps s.mbs T A n c qs _ rfl rfl rfl (HA.out.below HB1.out) HZ.out HN.out (HR.out.below HB1.out) HRZ.out).mono ?_
  rintro e w2 ⟨b, rfl, hb, hb2⟩
  have HB2 := Lib.hid (HB1.out.trans (hb2.mono HB1.out.size))
  have J0 := Lib.hid (blk_later hb2 K0.out)
  have J1 := Lib.hid (blk_later hb2 K1.out)
  have J2 := Lib.hid (blk_later hb2 K2.out)
  have HGL := Lib.hid hb
  clear hb hb2 a0 a1 a2 a3 a4 z0 K0 K1 K2
  obtain ⟨a0, a1, a2, a3, a4⟩ := four J0.out
  have z0 : w.heap.size < w2.heap.size := heap_lt J0.out
  have RQ := Lib.hid ((Req.six J1.out).2.2.2.2.2.2)
  have RN := Lib.hid ((Req.six J2.out).2.2.2.2.2.2)
  cases b
  case true =>
    go_wp2_with fail
    go_ret
    exact ⟨rfl, HB2.out⟩
  have HG := Lib.hid (HGL.out rfl)
  clear HGL
  have BD0 := Lib.hid (HG.out.gb.bd HEP.out HID.out)
  have hn60 : n ≤ 60 := by rw [← HN.out]; exact HG.out.len
  go_wp2_with (first
    | (with_reducible refine loadM rfl 56 _ rfl (w.heap.size + 1) 0 rfl 42 _ (Req.len _) _ RQ.out Tryd.underlying56 rfl size56 q.arr rfl ?_)
    | (with_reducible refine loadM rfl 56 _ rfl (w.heap.size + 1 + 1) 0 rfl 42 _ (Req.len _) _ RN.out Tryd.underlying56 rfl size56 nx.arr rfl ?_)
    | (with_reducible refine twoNew rfl q nx _ _ rfl rfl rfl ?_))
  have hA2 := Lib.hid (show Below w2.heap.size w2 (w2.alloc (.cells (twoQ q nx) 56)) from (Below.refl _ _).alloc (Nat.le_refl _) _)
  refine (great_any Ap Ar Am _ cp _ cr _ cm s.epoch s.pairs s.reps s.mbs (fun t => t = 56) _ 2 2 [q, nx] _ rfl rfl rfl (HA.out.below (HB2.out.trans (hA2.out.mono HB2.out.size))) HZ.out rfl (row_lit w2 56 42 [q.cells, nx.cells] (twoQ q nx) (by simp [Req.len]) (by simp [twoQ])) (rz_two HQZ.out HXZ.out)).mono ?_
  rintro e w4 ⟨b, rfl, hb, hb4⟩
  clear hb
  have hW4 := Lib.hid (hA2.out.trans (hb4.mono hA2.out.size))
  have HB4 := Lib.hid (HB2.out.trans (hW4.out.mono HB2.out.size))
  have I0 := Lib.hid (blk_later hW4.out J0.out)
  have I1 := Lib.hid (blk_later hW4.out J1.out)
  have I2 := Lib.hid (blk_later hW4.out J2.out)
  clear hb4 hA2 hW4 a0 a1 a2 a3 a4 z0 RQ RN J0 J1 J2
  have RQ := Lib.hid ((Req.six I1.out).2.2.2.2.2.2)
  have RN := Lib.hid ((Req.six I2.out).2.2.2.2.2.2)
  obtain ⟨q0, q1, _, _, _, _, _⟩ := Req.six I1.out
  obtain ⟨n0, n1, _, _, _, _, _⟩ := Req.six I2.out
  cases b
  case true =>
    go_wp2_with fail
    go_ret
    exact ⟨rfl, HB4.out⟩
  go_wp2_with (first
    | (with_reducible refine loadM rfl 56 _ rfl (w.heap.size + 1) 0 rfl 42 _ (Req.len _) _ RQ.out Tryd.underlying56 rfl size56 q.arr rfl ?_))
  refine (goodRef_any q _).mono ?_
  rintro e w5 ⟨rfl, hb5⟩
  have HB5 := Lib.hid (HB4.out.trans (hb5.mono HB4.out.size))
  have K0 := Lib.hid (blk_later hb5 I0.out)
  have K1 := Lib.hid (blk_later hb5 I1.out)
  have K2 := Lib.hid (blk_later hb5 I2.out)
  clear hb5 I0 I1 I2 RQ RN q0 q1 n0 n1
  have RQ := Lib.hid ((Req.six K1.out).2.2.2.2.2.2)
  have RN := Lib.hid ((Req.six K2.out).2.2.2.2.2.2)
  obtain ⟨q0, q1, _, _, _, _, _⟩ := Req.six K1.out
  obtain ⟨n0, n1, _, _, _, _, _⟩ := Req.six K2.out
  cases hgq : goodQ q
  case false =>
    go_wp2_with fail
    go_ret
    exact ⟨rfl, HB5.out⟩
  have HGQ := Lib.hid hgq
  clear hgq
  go_wp2_with (first
    | (with_reducible refine loadM rfl 56 _ rfl (w.heap.size + 1 + 1) 0 rfl 42 _ (Req.len _) _ RN.out Tryd.underlying56 rfl size56 nx.arr rfl ?_))
  refine (goodRef_any nx _).mono ?_
  rintro e w6 ⟨rfl, hb6⟩
  have HB6 := Lib.hid (HB5.out.trans (hb6.mono HB5.out.size))
  have I0 := Lib.hid (blk_later hb6 K0.out)
  have I1 := Lib.hid (blk_later hb6 K1.out)
  have I2 := Lib.hid (blk_later hb6 K2.out)
  clear hb6 K0 K1 K2 RQ RN q0 q1 n0 n1
  obtain ⟨B2, hB2⟩ : ∃ x, x = w.heap.size + 1 + 1 := ⟨_, rfl⟩
  rw [show w.heap.size + 2 = B2 from hB2.symm] at I2
  rw [← hB2]
  obtain ⟨B1, hB1⟩ : ∃ x, x = w.heap.size + 1 := ⟨_, rfl⟩
  rw [← hB1] at I1
  rw [← hB1]
  obtain ⟨B0, hB0⟩ : ∃ x, x = w.heap.size := ⟨_, rfl⟩
  have hB0w : w.heap.size ≤ B0 := by omega
  have hB1w : w.heap.size ≤ B1 := by omega
  have hB2w : w.heap.size ≤ B2 := by omega
  have n01 : ¬ B0 = B1 := by omega
  have n02 : ¬ B0 = B2 := by omega
  have n12 : ¬ B1 = B2 := by omega
  have n10 : ¬ B1 = B0 := by omega
  have n20 : ¬ B2 = B0 := by omega
  have n21 : ¬ B2 = B1 := by omega
  rw [← hB0] at I0
  rw [show (⟨w.heap.size, 0, none⟩ : Addr) = ⟨B0, 0, none⟩ from by rw [hB0]]
  clear hB0 hB1 hB2
  obtain ⟨a0, a1, a2, a3, a4⟩ := four I0.out
  obtain ⟨q0, q1, _, _, _, _, _⟩ := Req.six I1.out
  obtain ⟨n0, n1, _, _, _, _, _⟩ := Req.six I2.out
  have z0 : B0 < w6.heap.size := heap_lt I0.out
  have z1 : B1 < w6.heap.size := heap_lt I1.out
  have z2 : B2 < w6.heap.size := heap_lt I2.out
  cases hgn : goodQ nx
  case false =>
    go_wp2_with fail
    go_ret
    exact ⟨rfl, HB6.out⟩
  have HGN := Lib.hid hgn
  clear hgn
  by_cases hlt : q.num < nx.num
  case neg =>
    have hle : nx.num ≤ q.num := by omega
    go_wp2_with fail
    go_ret
    exact ⟨rfl, HB6.out⟩
  have HLT := Lib.hid hlt
  have hle : ¬ nx.num ≤ q.num := by omega
  have fz2 : ∀ o, w6.frozen? ⟨B2, o, none⟩ = false := fun o => by simp [World.frozen?, I2.out]
  have W7 := Lib.hid (below_setRow HB6.out hB2w (nextQ nx q).arr)
  have RQ := Lib.hid (show (w6.setCell ⟨B2, 0, none⟩ (.int .i64 q.client)).rangeAt B1 0 q.cells from (Req.six (show (w6.setCell ⟨B2, 0, none⟩ (.int .i64 q.client)).heap[B1]? = some (.cells q.arr 56 (0, 0)) from (Below.heap_setCell w6 ⟨B2, 0, none⟩ _ B1 n12).trans I1.out)).2.2.2.2.2.2)
  go_wp2_with (first
    | (with_reducible refine loadM rfl 56 _ rfl B1 0 rfl 42 _ (Req.len _) _ RQ.out Tryd.underlying56 rfl size56 q.arr rfl ?_))
  rw [setCell_eq_setRow w6 B2 0 nx.arr 56 (0, 0) (.int .i64 q.client) I2.out, nextQ_arr]
  have HGX := Lib.hid (nextQ_good HGN.out HGQ.out)
  have HLX := Lib.hid (show q.num < (nextQ nx q).num from HLT.out)
  have HCX := Lib.hid (show (nextQ nx q).client = q.client from rfl)
  obtain ⟨w7, hw7⟩ : ∃ x, x = w6.setRow B2 (nextQ nx q).arr := ⟨_, rfl⟩
  have K0 := Lib.hid (show w7.heap[B0]? = some (.cells #[.slice Ap s.pairs.length cp, .slice Ar s.reps.length cr, .int .i64 s.epoch, .slice Am s.mbs.length cm] 28 (0, 0)) from by rw [hw7]; exact (setRow_other _ _ _ _ n02).trans I0.out)
  have K1 := Lib.hid (show w7.heap[B1]? = some (.cells q.arr 56 (0, 0)) from by rw [hw7]; exact (setRow_other _ _ _ _ n12).trans I1.out)
  have K2 := Lib.hid (show w7.heap[B2]? = some (.cells (nextQ nx q).arr 56 (0, 0)) from by rw [hw7]; exact setRow_heap w6 B2 _ (nextQ nx q).arr 56 (0, 0) I2.out)
  rw [← hw7] at W7 ⊢
  obtain ⟨ny, hny⟩ : ∃ x, x = nextQ nx q := ⟨_, rfl⟩
  rw [← hny] at K2 HGX HLX HCX
  clear hw7 hny RQ a0 a1 a2 a3 a4 q0 q1 n0 n1 z0 z1 z2 fz2 hlt HLT HGN I0 I1 I2
  have hs7 := W7.out.size
  refine (Apply_sv Ap Ar Am cp cr cm 100 s q w7 (HA.out.below W7.out) BD0.out (by decide) ((HT.out.below W7.out).mono hs7)).mono ?_
  rintro e w8 ⟨v8, vr, rfl, hos, ⟨Av, cv, rfl, hcv, hrow⟩, hb8⟩
  obtain ⟨Cp, ep, Cr, er, Cm, em, hv8⟩ := hos.val_eq
  subst hv8
  have HSV := Lib.hid hos.toSV
  have HROW := Lib.hid hrow
  have HB8 := Lib.hid (W7.out.trans (hb8.mono hs7))
  have I0 := Lib.hid (blk_later hb8 K0.out)
  have I1 := Lib.hid (blk_later hb8 K1.out)
  have I2 := Lib.hid (blk_later hb8 K2.out)
  have BD1 := Lib.hid (BD0.out.step (q := q))
  have HC8 := Lib.hid (once_old (s := s) (q := q))
  have HRC := Lib.hid (once_rec (s := s) (q := q) HG.out.rises HGQ.out)
  obtain ⟨x, hx⟩ : ∃ x, x = applyS s q := ⟨_, rfl⟩
  obtain ⟨a, ha⟩ : ∃ a, a = applyR s q := ⟨_, rfl⟩
  rw [← hx] at HSV BD1 HC8 HRC ⊢
  rw [← ha] at HROW HC8 HRC ⊢
  clear hx ha hos hcv hrow hb8 K0 K1 K2
  obtain ⟨a0, a1, a2, a3, a4⟩ := four I0.out
  obtain ⟨q0, q1, _, _, _, _, _⟩ := Req.six I1.out
  obtain ⟨n0, n1, _, _, _, _, _⟩ := Req.six I2.out
  have z0 : B0 < w8.heap.size := heap_lt I0.out
  have z1 : B1 < w8.heap.size := heap_lt I1.out
  have z2 : B2 < w8.heap.size := heap_lt I2.out
  have hs8 := HB8.out.size
  by_cases h8 : a.code = 8
  case pos =>
    go_wp2_with fail
    have HAL := Lib.hid (show Below w8.heap.size w8 ((w8.alloc (.cells #[.slice Cp x.pairs.length ep, .slice Cr x.reps.length er, .int .i64 x.epoch, .slice Cm x.mbs.length em] 28)).alloc (.cells #[.int .i64 a.client, .int .i64 a.num, .int .i64 8, .slice Av a.vals.length cv] 36)) from ((Below.refl _ _).alloc (Nat.le_refl _) _).alloc (by rw [World.size_alloc]; omega) _)
    refine (Same_any Cp Cr Cm Ap Ar Am _ ep _ er _ em _ cp _ cr _ cm x.epoch s.epoch x.pairs s.pairs x.reps s.reps x.mbs s.mbs _ rfl rfl rfl rfl rfl rfl (HSV.out.below HAL.out) (HA.out.below (HB8.out.trans (HAL.out.mono hs8))) (Nat.le_trans BD1.out.p (by decide)) (Nat.le_trans BD1.out.r (by decide)) (Nat.le_trans BD1.out.m (by decide)) BD1.out.vk).mono ?_
    rintro e w9 ⟨rfl, hb9⟩
    have hsame : sameS ⟨x.pairs, x.reps, x.epoch, x.mbs⟩ ⟨s.pairs, s.reps, s.epoch, s.mbs⟩ = true := by
      have := HC8.out h8
      subst this
      exact sameS_refl _
    rw [hsame]
    have HB9 := Lib.hid (HB8.out.trans ((HAL.out.trans (hb9.mono HAL.out.size)).mono hs8))
    clear hb9 hsame
    go_wp2_with fail
    go_ret
    exact ⟨rfl, HB9.out⟩
  have REC := Lib.hid (HRC.out h8)
  clear HC8 HRC
  go_wp2_with fail
  have HAL := Lib.hid (show Below w8.heap.size w8 ((w8.alloc (.cells #[.slice Cp x.pairs.length ep, .slice Cr x.reps.length er, .int .i64 x.epoch, .slice Cm x.mbs.length em] 28)).alloc (.cells #[.int .i64 a.client, .int .i64 a.num, .int .i64 a.code, .slice Av a.vals.length cv] 36)) from ((Below.refl _ _).alloc (Nat.le_refl _) _).alloc (by rw [World.size_alloc]; omega) _)
  have KX := Lib.hid (at2_0 w8 (.cells #[.slice Cp x.pairs.length ep, .slice Cr x.reps.length er, .int .i64 x.epoch, .slice Cm x.mbs.length em] 28) (.cells #[.int .i64 a.client, .int .i64 a.num, .int .i64 a.code, .slice Av a.vals.length cv] 36))
  have KA := Lib.hid (at2_1 w8 (.cells #[.slice Cp x.pairs.length ep, .slice Cr x.reps.length er, .int .i64 x.epoch, .slice Cm x.mbs.length em] 28) (.cells #[.int .i64 a.client, .int .i64 a.num, .int .i64 a.code, .slice Av a.vals.length cv] 36))
  have SX0 := Lib.hid (HSV.out.sx (V := fun k => k = w8.heap.size) HAL.out (fun k e => by omega))
  rw [show (a.code == 8) = false from by simpa using h8]
  obtain ⟨X, hX⟩ : ∃ X, X = w8.heap.size := ⟨_, rfl⟩
  rw [← hX] at KX KA SX0 z0 z1 z2 hs8
  rw [← hX]
  obtain ⟨w9, hw9⟩ : ∃ u, u = (w8.alloc (.cells #[.slice Cp x.pairs.length ep, .slice Cr x.reps.length er, .int .i64 x.epoch, .slice Cm x.mbs.length em] 28)).alloc (.cells #[.int .i64 a.client, .int .i64 a.num, .int .i64 a.code, .slice Av a.vals.length cv] 36) := ⟨_, rfl⟩
  rw [← hw9] at HAL KX KA SX0 ⊢
  have HI0 := Lib.hid (show OnI w w9 X B1 B2 q ny Av cv a Cp ep Cr er Cm em x from ⟨KX.out, SX0.out, KA.out, HROW.out.below HAL.out, blk_later HAL.out I1.out, blk_later HAL.out I2.out, HB8.out.trans (HAL.out.mono HB8.out.size)⟩)
  have HX0 := Lib.hid (show BdS (101 + 0) x ∧ Rec x a q from ⟨BD1.out, REC.out⟩)
  clear hw9 HAL KX KA SX0 hX HROW BD1 REC HSV I0 I1 I2 a0 a1 a2 a3 a4 q0 q1 n0 n1 HB2 HB4 HB5 HB6 HB8 W7 HB1 HQZ HXZ HRZ h8 z0 hs7 HEP HID HA HZ hB0w hB1w hB2w n01 n02 n10 n20
  go_loopw [63] (fun i wr => ∃ (k : Nat) (Ap : Option Addr) (cp : Nat) (Ar : Option Addr) (cr : Nat) (Am : Option Addr) (cm : Nat) (st : St), k ≤ n ∧ i = .int .i64 k ∧ Hid (OnI w wr X B1 B2 q ny Av cv a Ap cp Ar cr Am cm st) ∧ Hid (BdS (101 + k) st ∧ Rec st a q))
    (fun i _ => n - (intOf i).toNat)
  case atStart => exact ⟨0, Cp, ep, Cr, er, Cm, em, x, Nat.zero_le _, rfl, HI0, HX0⟩
  case round =>
    clear HI0 HX0
    obtain ⟨k, Dp, fp, Dr, fr, Dm, fm, st, hk, rfl, HI, HX⟩ := hrel
    have hXr : X < wr.heap.size := heap_lt HI.out.out
    have hsz := HI.out.bel.size
    obtain ⟨o0, o1, o2, o3, o4⟩ := four HI.out.out
    obtain ⟨q0, _, _, _, _, _, _⟩ := Req.six HI.out.k1
    have z1r : B1 < wr.heap.size := by omega
    by_cases hlt : k < n
    case pos =>
      have hki : (k : Int) < n := by omega
      obtain ⟨g, off, hA, hg, c0⟩ := (HR.out.below HI.out.bel).range (req_at (k := k) (by rw [HN.out]; exact hlt))
      obtain ⟨o, ho⟩ : ∃ o, o = reqOf qs k := ⟨_, rfl⟩
      rw [← ho] at c0
      subst hA
      have HC := Lib.hid c0
      clear ho c0
      have hW1 := Lib.hid (show Below wr.heap.size wr (wr.alloc (.cells o.arr 56)) from (Below.refl _ _).alloc (Nat.le_refl _) _)
      have RO := Lib.hid (show (wr.alloc (.cells o.arr 56)).rangeAt wr.heap.size 0 o.cells from newRange wr o.cells 56)
      by_cases hcl : o.client = q.client
      case pos =>
        go_wp2_with (first
          | (with_reducible refine loadM rfl 56 _ rfl g (off + k * 42) rfl 42 _ (Req.len _) _ HC.out Tryd.underlying56 rfl size56 o.arr rfl ?_)
          | (with_reducible refine storeNew rfl 56 _ _ rfl rfl o.arr rfl 56 _ 42 (Req.arrSize _) size56 rfl (Req.ones _) ?_))
        go_roundw
        case rel => exact ⟨k + 1, Dp, fp, Dr, fr, Dm, fm, st, by omega, by go_num, Lib.hid (HI.out.later hW1.out), Lib.hid ⟨HX.out.1.mono (by omega), HX.out.2⟩⟩
        case measure => simp only [intOf]; omega
      have HCL := Lib.hid hcl
      go_wp2_with (first
        | (with_reducible refine loadM rfl 56 _ rfl g (off + k * 42) rfl 42 _ (Req.len _) _ HC.out Tryd.underlying56 rfl size56 o.arr rfl ?_)
        | (with_reducible refine storeNew rfl 56 _ _ rfl rfl o.arr rfl 56 _ 42 (Req.arrSize _) size56 rfl (Req.ones _) ?_)
        | (with_reducible refine loadM rfl 56 _ rfl wr.heap.size 0 rfl 42 _ (Req.len _) _ RO.out Tryd.underlying56 rfl size56 o.arr rfl ?_))
      refine (Apply_sv Dp Dr Dm fp fr fm (101 + k) st o _ (HI.out.sx.below hW1.out).sv HX.out.1 (by omega) ((HT.out.below (HI.out.bel.trans (hW1.out.mono hsz))).mono (by rw [World.size_alloc]; omega))).mono ?_
      rintro e w4 ⟨v4, vr, rfl, hos, ⟨Av4, cv4, rfl, hcv4, hrow4⟩, hb4⟩
      rw [World.size_alloc] at hos
      obtain ⟨Ep, gp, Er, gr, Em, gm, hv4⟩ := hos.val_eq
      subst hv4
      have HI4 := Lib.hid (HI.out.later (hW1.out.trans (hb4.mono (by rw [World.size_alloc]; omega))))
      have SX4 := Lib.hid (hos.sx (V := fun k => k = X) (fun k e => by omega) (fun k e cs fz hc => by subst e; rw [HI4.out.out] at hc; cases hc))
      have RC4 := Lib.hid (show BdS (101 + (k + 1)) (applyS st o) ∧ Rec (applyS st o) a q from ⟨HX.out.1.step, once_keep HX.out.2 HCL.out⟩)
      obtain ⟨s', hs'⟩ : ∃ s', s' = applyS st o := ⟨_, rfl⟩
      obtain ⟨r', hr'⟩ : ∃ r', r' = applyR st o := ⟨_, rfl⟩
      rw [← hs'] at SX4 RC4 ⊢
      rw [← hr']
      clear hos hcv4 hrow4 hb4 hs' hr' RO HC hW1 HI HX o0 o1 o2 o3 o4 q0 hcl hg
      obtain ⟨o0, o1, o2, o3, o4⟩ := four HI4.out.out
      have zX : X < w4.heap.size := heap_lt HI4.out.out
      go_wp2_with fail
      rw [store4 HI4.out.out]
      go_roundw
      case rel => exact ⟨k + 1, Ep, gp, Er, gr, Em, gm, s', by omega, by go_num, Lib.hid (HI4.out.set hs8 z1 z2 SX4.out), RC4⟩
      case measure => simp only [intOf]; omega
    obtain rfl : k = n := by omega
    have RQ := Lib.hid ((Req.six HI.out.k1).2.2.2.2.2.2)
    go_wp2_with (first
      | (with_reducible refine loadM rfl 56 _ rfl B1 0 rfl 42 _ (Req.len _) _ RQ.out Tryd.underlying56 rfl size56 q.arr rfl ?_))
    have ES := Lib.hid (once_same HX.out.2 HGQ.out)
    have BDX := Lib.hid HX.out.1
    have AVL := Lib.hid (show a.vals.length ≤ 1000000 from Nat.le_trans (HX.out.1.v _ HX.out.2.mem) (by decide))
    refine (Apply_sv Dp Dr Dm fp fr fm (101 + k) st q wr HI.out.sx.sv HX.out.1 (by omega) ((HT.out.below HI.out.bel).mono hsz)).mono ?_
    rintro e w4 ⟨v4, vr, rfl, hos, ⟨Av4, cv4, rfl, hcv4, hrow4⟩, hb4⟩
    rw [ES.out.1] at hos
    rw [ES.out.2] at hrow4 ⊢
    obtain ⟨Ep, gp, Er, gr, Em, gm, hv4⟩ := hos.val_eq
    subst hv4
    have HI4 := Lib.hid (HI.out.later hb4)
    have SV4 := Lib.hid hos.toSV
    have HROW4 := Lib.hid hrow4
    clear hos hrow4 hcv4 hb4 RQ o0 o1 o2 o3 o4 q0 HI
    obtain ⟨o0, o1, o2, o3, o4⟩ := four HI4.out.out
    have zX : X < w4.heap.size := heap_lt HI4.out.out
    have hs4 := HI4.out.bel.size
    go_wp2_with fail
    have HAL := Lib.hid (show Below w4.heap.size w4 ((w4.alloc (.cells #[.slice Ep st.pairs.length gp, .slice Er st.reps.length gr, .int .i64 st.epoch, .slice Em st.mbs.length gm] 28)).alloc (.cells #[.int .i64 a.client, .int .i64 a.num, .int .i64 a.code, .slice Av4 a.vals.length cv4] 36)) from ((Below.refl _ _).alloc (Nat.le_refl _) _).alloc (by rw [World.size_alloc]; omega) _)
    refine (Same_any Dp Dr Dm Ep Er Em _ fp _ fr _ fm _ gp _ gr _ gm st.epoch st.epoch st.pairs st.pairs st.reps st.reps st.mbs st.mbs _ rfl rfl rfl rfl rfl rfl (HI4.out.sx.below HAL.out).sv (SV4.out.below HAL.out) (Nat.le_trans BDX.out.p (by decide)) (Nat.le_trans BDX.out.r (by omega)) (Nat.le_trans BDX.out.m (by decide)) BDX.out.vk).mono ?_
    rintro e w5 ⟨rfl, hb5⟩
    rw [show sameS ⟨st.pairs, st.reps, st.epoch, st.mbs⟩ ⟨st.pairs, st.reps, st.epoch, st.mbs⟩ = true from sameS_refl _]
    have HW5 := Lib.hid (HAL.out.trans (hb5.mono HAL.out.size))
    have KY := Lib.hid (blk_later hb5 (at2_0 w4 (.cells #[.slice Ep st.pairs.length gp, .slice Er st.reps.length gr, .int .i64 st.epoch, .slice Em st.mbs.length gm] 28) (.cells #[.int .i64 a.client, .int .i64 a.num, .int .i64 a.code, .slice Av4 a.vals.length cv4] 36)))
    have KZ := Lib.hid (blk_later hb5 (at2_1 w4 (.cells #[.slice Ep st.pairs.length gp, .slice Er st.reps.length gr, .int .i64 st.epoch, .slice Em st.mbs.length gm] 28) (.cells #[.int .i64 a.client, .int .i64 a.num, .int .i64 a.code, .slice Av4 a.vals.length cv4] 36)))
    have HI5 := Lib.hid (HI4.out.later HW5.out)
    have SV5 := Lib.hid (SV4.out.sx (V := fun k => k = w4.heap.size) HW5.out (fun k e => by omega))
    have HROW5 := Lib.hid (HROW4.out.below HW5.out)
    obtain ⟨Y, hY⟩ : ∃ Y, Y = w4.heap.size := ⟨_, rfl⟩
    rw [← hY] at KY KZ SV5 zX hs4
    rw [← hY]
    have z1Y : B1 < Y := by omega
    have z2Y : B2 < Y := by omega
    clear hY HAL hb5 HW5 o0 o1 o2 o3 o4 HI4 SV4 HROW4
    obtain ⟨a0, a1, a2, a3, a4⟩ := four HI5.out.ab
    obtain ⟨b0, b1, b2, b3, b4⟩ := four KZ.out
    go_wp2_with fail
    refine (SameR_any _ _ Av Av4 _ cv _ cv4 a a _ rfl rfl HI5.out.av HROW5.out AVL.out).mono ?_
    rintro e w6 ⟨rfl, hb6⟩
    rw [sameR_refl]
    have HI6 := Lib.hid (HI5.out.later hb6)
    have KY6 := Lib.hid (blk_later hb6 KY.out)
    have SV6 := Lib.hid (SV5.out.below hb6)
    clear hb6 a0 a1 a2 a3 a4 b0 b1 b2 b3 b4 KY KZ SV5 HROW5 HI5
    obtain ⟨y0, y1, y2, y3, y4⟩ := four KY6.out
    have zY : Y < w6.heap.size := heap_lt KY6.out
    have RN := Lib.hid ((Req.six HI6.out.k2).2.2.2.2.2.2)
    go_wp2_with (first
      | (with_reducible refine loadM rfl 56 _ rfl B2 0 rfl 42 _ (Req.len _) _ RN.out Tryd.underlying56 rfl size56 ny.arr rfl ?_))
    refine (Apply_sv Ep Er Em gp gr gm (101 + k) st ny w6 SV6.out.sv BDX.out (by omega) ((HT.out.below HI6.out.bel).mono HI6.out.bel.size)).mono ?_
    rintro e w7 ⟨v7, vr, rfl, hos, ⟨Av7, cv7, rfl, hcv7, hrow7⟩, hb7⟩
    obtain ⟨Fp, hp, Fr, hr2, Fm, hm, hv7⟩ := hos.val_eq
    subst hv7
    obtain ⟨rN, hrN⟩ := once_next HX.out.2 HGX.out HCX.out HLX.out
    have HI7 := Lib.hid (HI6.out.later hb7)
    have KY7 := Lib.hid (blk_later hb7 KY6.out)
    have SX7 := Lib.hid (hos.sx (V := fun k => k = Y) (fun k e => by omega) (fun k e cs fz hc => by subst e; rw [KY7.out] at hc; cases hc))
    have BDY := Lib.hid (BDX.out.step (q := ny))
    have EY := Lib.hid (once_end hrN HGQ.out HCX.out HLX.out)
    obtain ⟨y, hy⟩ : ∃ y, y = applyS st ny := ⟨_, rfl⟩
    obtain ⟨r', hr'⟩ : ∃ r', r' = applyR st ny := ⟨_, rfl⟩
    rw [← hy] at SX7 BDY EY ⊢
    rw [← hr']
    clear hos hcv7 hrow7 hb7 hy hr' hrN RN y0 y1 y2 y3 y4 zY KY6 SV6 HI6 HX BDX ES
    obtain ⟨y0, y1, y2, y3, y4⟩ := four KY7.out
    have zY : Y < w7.heap.size := heap_lt KY7.out
    have zB : B1 < w7.heap.size := by omega
    have RQ := Lib.hid (show ((((w7.setCell ⟨Y, 0, none⟩ (.slice Fp y.pairs.length hp)).setCell ⟨Y, 1, none⟩ (.slice Fr y.reps.length hr2)).setCell ⟨Y, 2, none⟩ (.int .i64 y.epoch)).setCell ⟨Y, 3, none⟩ (.slice Fm y.mbs.length hm)).rangeAt B1 0 q.cells from by rw [store4 KY7.out]; exact (Req.six ((setRow_other w7 Y B1 _ (by omega)).trans HI7.out.k1)).2.2.2.2.2.2)
    go_wp2_with (first
      | (with_reducible refine loadM rfl 56 _ rfl B1 0 rfl 42 _ (Req.len _) _ RQ.out Tryd.underlying56 rfl size56 q.arr rfl ?_))
    rw [store4 KY7.out]
    have KY8 := Lib.hid (setRow_heap w7 Y _ #[.slice Fp y.pairs.length hp, .slice Fr y.reps.length hr2, .int .i64 y.epoch, .slice Fm y.mbs.length hm] 28 (0, 0) KY7.out)
    have SX8 := Lib.hid (SX7.out.go (AgV.setRow (V := fun k => k = Y) w7 rfl #[.slice Fp y.pairs.length hp, .slice Fr y.reps.length hr2, .int .i64 y.epoch, .slice Fm y.mbs.length hm]))
    have HB8 := Lib.hid (below_setRow HI7.out.bel (show w.heap.size ≤ Y by omega) #[.slice Fp y.pairs.length hp, .slice Fr y.reps.length hr2, .int .i64 y.epoch, .slice Fm y.mbs.length hm])
    obtain ⟨w8', hw8⟩ : ∃ u, u = w7.setRow Y #[.slice Fp y.pairs.length hp, .slice Fr y.reps.length hr2, .int .i64 y.epoch, .slice Fm y.mbs.length hm] := ⟨_, rfl⟩
    rw [← hw8] at KY8 SX8 HB8 ⊢
    clear hw8 RQ KY7 SX7 HI7 y0 y1 y2 y3 y4 zY zB
    refine (Apply_sv Fp Fr Fm hp hr2 hm (101 + k + 1) y q w8' SX8.out.sv BDY.out (by omega) ((HT.out.below HB8.out).mono HB8.out.size)).mono ?_
    rintro e w9' ⟨v9, vr, rfl, hos, ⟨Av9, cv9, rfl, hcv9, hrow9⟩, hb9⟩
    rw [EY.out.1] at hos
    rw [EY.out.2]
    obtain ⟨Gp, ip, Gr, ir, Gm, im, hv9⟩ := hos.val_eq
    subst hv9
    have SV9 := Lib.hid hos.toSV
    have SX9 := Lib.hid (SX8.out.below hb9)
    have KY9 := Lib.hid (blk_later hb9 KY8.out)
    have HB9 := Lib.hid (HB8.out.trans (hb9.mono HB8.out.size))
    clear hos hcv9 hrow9 hb9 KY8 SX8
    obtain ⟨y0, y1, y2, y3, y4⟩ := four KY9.out
    have zY : Y < w9'.heap.size := heap_lt KY9.out
    go_wp2_with fail
    have HAL := Lib.hid (show Below w9'.heap.size w9' ((w9'.alloc (.cells #[.slice Gp y.pairs.length ip, .slice Gr y.reps.length ir, .int .i64 y.epoch, .slice Gm y.mbs.length im] 28)).alloc (.cells #[.int .i64 q.client, .int .i64 q.num, .int .i64 8, .slice Av9 0 cv9] 36)) from ((Below.refl _ _).alloc (Nat.le_refl _) _).alloc (by rw [World.size_alloc]; omega) _)
    refine (Same_any Gp Gr Gm Fp Fr Fm _ ip _ ir _ im _ hp _ hr2 _ hm y.epoch y.epoch y.pairs y.pairs y.reps y.reps y.mbs y.mbs _ rfl rfl rfl rfl rfl rfl (SV9.out.below HAL.out) (SX9.out.below HAL.out).sv (Nat.le_trans BDY.out.p (by decide)) (Nat.le_trans BDY.out.r (by omega)) (Nat.le_trans BDY.out.m (by decide)) BDY.out.vk).mono ?_
    rintro e w10 ⟨rfl, hb10⟩
    rw [show sameS ⟨y.pairs, y.reps, y.epoch, y.mbs⟩ ⟨y.pairs, y.reps, y.epoch, y.mbs⟩ = true from sameS_refl _]
    have HB10 := Lib.hid (HB9.out.trans ((HAL.out.trans (hb10.mono HAL.out.size)).mono HB9.out.size))
    clear hb10
    go_wp2_with fail
    go_ret
    exact ⟨rfl, HB10.out⟩
end Go.Proofs.YtchnnplcpidkiaaDoor
