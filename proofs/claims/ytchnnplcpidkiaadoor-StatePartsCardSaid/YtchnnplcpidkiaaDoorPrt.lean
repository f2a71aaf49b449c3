/-
  The walk of StateParts: whatever the registry and the two requests: it returns true.
-/
import Derived.Test.YtchnnplcpidkiaaDoorFrm
import Derived.Test.YtchnnplcpidkiaaDoorPlp
import Derived.Test.YtchnnplcpidkiaaDoorLit
namespace Go.Proofs.YtchnnplcpidkiaaDoor
open Go.RowKit

theorem rz_pair {q nx : Req} (h : q.key.size ≤ 1152921504606846976 ∧ q.val.size ≤ 1152921504606846976 ∧ q.old.size ≤ 1152921504606846976)
    (h' : nx.key.size ≤ 1152921504606846976 ∧ nx.val.size ≤ 1152921504606846976 ∧ nx.old.size ≤ 1152921504606846976) : RZ [q, nx] := fun k hk => by
  match k, hk with
  | 0, _ => exact h
  | 1, _ => exact h'
theorem Reps.two {w : World} {T Tv : TypeId → Prop} {A : Option Addr} {r1 r2 : Rp} (h : Reps w T Tv A [r1, r2]) :
    ∃ b off A1 c1 A2 c2, A = some ⟨b, off, none⟩ ∧ b < w.heap.size ∧
      w.cell? ⟨b, off, none⟩ = some (.int .i64 r1.client) ∧ w.cell? ⟨b, off + 1, none⟩ = some (.int .i64 r1.num) ∧ w.cell? ⟨b, off + 2, none⟩ = some (.int .i64 r1.code) ∧ w.cell? ⟨b, off + 3, none⟩ = some (.slice A1 r1.vals.length c1) ∧
      w.cell? ⟨b, off + 4, none⟩ = some (.int .i64 r2.client) ∧ w.cell? ⟨b, off + 5, none⟩ = some (.int .i64 r2.num) ∧ w.cell? ⟨b, off + 6, none⟩ = some (.int .i64 r2.code) ∧ w.cell? ⟨b, off + 7, none⟩ = some (.slice A2 r2.vals.length c2) ∧
      Row w Tv 1 A1 (r1.vals.map strC) ∧ Row w Tv 1 A2 (r2.vals.map strC) := by
  obtain ⟨b, off, A1, c1, hA, hb, x0, x1, x2, x3, _, x5⟩ := h.at (k := 0) (by simp)
  obtain ⟨b', off', A2, c2, hA', hb', y0, y1, y2, y3, _, y5⟩ := h.at (k := 1) (by simp)
  rw [hA] at hA'
  cases hA'
  exact ⟨b, off, A1, c1, A2, c2, hA, hb, x0, x1, x2, x3, y0, y1, y2, y3, x5, y5⟩
theorem Req.kc {w : World} {b : Nat} {q : Req} {t : TypeId} {fz : Nat × Nat} (h : w.heap[b]? = some (.cells q.arr t fz)) :
    w.cell? ⟨b, 0, none⟩ = some (.int .i64 q.client) ∧ w.cell? ⟨b, 2, none⟩ = some (.int .i64 q.kind) ∧ w.cell? ⟨b, 3, none⟩ = some (.string q.key) := ⟨(Req.six h).1, (Req.six h).2.2.1, (Req.six h).2.2.2.1⟩

set_option maxHeartbeats 4000000 in
set_option maxRecDepth 100000 in
theorem parts_any (Ap Ar Am : Option Addr) (cp cr cm : Nat) (s : St) (q nx : Req) (w : World)
    (h : SV w Ap Ar Am s) (hz : SZ s) (hep : -9223372036854775808 ≤ s.epoch ∧ s.epoch ≤ 9223372036854775807) (hid : ∀ m ∈ s.mbs, -9223372036854775808 ≤ m.id ∧ m.id ≤ 9223372036854775807)
    (hq : q.key.size ≤ 1152921504606846976 ∧ q.val.size ≤ 1152921504606846976 ∧ q.old.size ≤ 1152921504606846976)
    (hx : nx.key.size ≤ 1152921504606846976 ∧ nx.val.size ≤ 1152921504606846976 ∧ nx.old.size ≤ 1152921504606846976) (ht : Tab w.heap.size w) :
    Calls Tryd.prog 6 #[SV.val Ap cp Ar cr Am cm s, .agg q.arr, .agg nx.arr] w (AlivePost w) := by
  have HA := Lib.hid h
  have HZ := Lib.hid hz
  have HEP := Lib.hid hep
  have HID := Lib.hid hid
  have HQZ := Lib.hid hq
  have HXZ := Lib.hid hx
  have HT := Lib.hid ht
  clear h hz hep hid ht hq hx
  have HB0 := Lib.hid (show Below w.heap.size w (((w.alloc (.cells #[.slice Ap s.pairs.length cp, .slice Ar s.reps.length cr, .int .i64 s.epoch, .slice Am s.mbs.length cm] 28)).alloc (.cells q.arr 56)).alloc (.cells nx.arr 56)) from (((Below.refl _ _).alloc (Nat.le_refl _) _).alloc (by rw [World.size_alloc]; omega) _).alloc (by simp only [World.size_alloc]; omega) _)
  have k0 := at3_0 w (.cells #[.slice Ap s.pairs.length cp, .slice Ar s.reps.length cr, .int .i64 s.epoch, .slice Am s.mbs.length cm] 28) (.cells q.arr 56) (.cells nx.arr 56)
  have k1 := at3_1 w (.cells #[.slice Ap s.pairs.length cp, .slice Ar s.reps.length cr, .int .i64 s.epoch, .slice Am s.mbs.length cm] 28) (.cells q.arr 56) (.cells nx.arr 56)
  have k2 := at3_2 w (.cells #[.slice Ap s.pairs.length cp, .slice Ar s.reps.length cr, .int .i64 s.epoch, .slice Am s.mbs.length cm] 28) (.cells q.arr 56) (.cells nx.arr 56)
  go_enter Tryd.func6, Tryd.ntmps6
  go_wp2_with fail
  refine (alive_any _ ((HT.out.below HB0.out).mono (by simp only [World.size_alloc]; omega))).mono ?_
  rintro e w1 ⟨rfl, hb1⟩
  have HB1 := Lib.hid (HB0.out.trans (hb1.mono (by simp only [World.size_alloc]; omega)))
  have I0 := Lib.hid (blk_later hb1 k0)
  have I1 := Lib.hid (blk_later hb1 k1)
  have I2 := Lib.hid (blk_later hb1 k2)
  clear hb1 k0 k1 k2 HB0
  obtain ⟨B2, hB2⟩ : ∃ x, x = w.heap.size + 1 + 1 := ⟨_, rfl⟩
  rw [show w.heap.size + 2 = B2 from hB2.symm] at I2
  rw [← hB2]
  obtain ⟨B1, hB1⟩ : ∃ x, x = w.heap.size + 1 := ⟨_, rfl⟩
  rw [← hB1] at I1
  rw [← hB1]
  obtain ⟨B0, hB0⟩ : ∃ x, x = w.heap.size := ⟨_, rfl⟩
  have n01 : ¬ B0 = B1 := by omega
  have n02 : ¬ B0 = B2 := by omega
  have n12 : ¬ B1 = B2 := by omega
  have n10 : ¬ B1 = B0 := by omega
  have n20 : ¬ B2 = B0 := by omega
  have n21 : ¬ B2 = B1 := by omega
  rw [← hB0] at I0
  rw [show (⟨w.heap.size, 0, none⟩ : Addr) = ⟨B0, 0, none⟩ from by rw [hB0]]
  clear hB0 hB1 hB2
  obtain ⟨a0, a1, a2, a3, a4⟩ := four I0.out
  have z0 : B0 < w1.heap.size := heap_lt I0.out
  have z1 : B1 < w1.heap.size := heap_lt I1.out
  have z2 : B2 < w1.heap.size := heap_lt I2.out
  have RQ := Lib.hid ((Req.six I1.out).2.2.2.2.2.2)
  have RN := Lib.hid ((Req.six I2.out).2.2.2.2.2.2)
  go_wp2_with (first
    | (with_reducible refine loadM rfl 56 _ rfl B1 0 rfl 42 _ (Req.len _) _ RQ.out Tryd.underlying56 rfl size56 q.arr rfl ?_)
    | (with_reducible refine loadM rfl 56 _ rfl B2 0 rfl 42 _ (Req.len _) _ RN.out Tryd.underlying56 rfl size56 nx.arr rfl ?_)
    | (with_reducible refine twoNew rfl q nx _ _ rfl rfl rfl ?_))
  have hA2 := Lib.hid (show Below w1.heap.size w1 (w1.alloc (.cells (twoQ q nx) 56)) from (Below.refl _ _).alloc (Nat.le_refl _) _)
  refine (great_any Ap Ar Am _ cp _ cr _ cm s.epoch s.pairs s.reps s.mbs (fun t => t = 56) _ 2 2 [q, nx] _ rfl rfl rfl (HA.out.below (HB1.out.trans (hA2.out.mono HB1.out.size))) HZ.out rfl (row_lit w1 56 42 [q.cells, nx.cells] (twoQ q nx) (by simp [Req.len]) (by simp [twoQ])) (rz_pair HQZ.out HXZ.out)).mono ?_
  rintro e w2 ⟨b, rfl, hb, hb2⟩
  have hW2 := Lib.hid (hA2.out.trans (hb2.mono hA2.out.size))
  have HB2 := Lib.hid (HB1.out.trans (hW2.out.mono HB1.out.size))
  have HGL := Lib.hid hb
  have K0 := Lib.hid (blk_later hW2.out I0.out)
  have K1 := Lib.hid (blk_later hW2.out I1.out)
  have K2 := Lib.hid (blk_later hW2.out I2.out)
  clear hb hb2 hA2 hW2 a0 a1 a2 a3 a4 z0 z1 z2 RQ RN I0 I1 I2
  obtain ⟨a0, a1, a2, a3, a4⟩ := four K0.out
  obtain ⟨q0, q2, q3⟩ := Req.kc K1.out
  obtain ⟨n0, n2, n3⟩ := Req.kc K2.out
  have z0 : B0 < w2.heap.size := heap_lt K0.out
  have z1 : B1 < w2.heap.size := heap_lt K1.out
  have z2 : B2 < w2.heap.size := heap_lt K2.out
  cases b
  case true =>
    go_wp2_with fail
    go_ret
    exact ⟨rfl, HB2.out⟩
  have HG := Lib.hid (HGL.out rfl)
  clear HGL
  have BD0 := Lib.hid (HG.out.gb.bd HEP.out HID.out)
  by_cases hc : q.client = nx.client
  case pos =>
    have hcb : (q.client == nx.client) = true := by simpa using hc
    go_wp2_with fail
    go_ret
    exact ⟨rfl, HB2.out⟩
  have HC := Lib.hid hc
  have hcb : (q.client == nx.client) = false := by simpa using hc
  cases hke : (q.key.toList == nx.key.toList)
  case true =>
    go_wp2_with fail
    go_ret
    exact ⟨rfl, HB2.out⟩
  have HK := Lib.hid (show q.key ≠ nx.key from fun e => by rw [e] at hke; simp at hke)
  by_cases hk1 : q.kind ≤ 4
  case neg =>
    have hk1' : 4 < q.kind := by omega
    have hk1d : decide (4 < q.kind) = true := decide_eq_true hk1'
    go_wp2_with fail
    go_ret
    exact ⟨rfl, HB2.out⟩
  have HK1 := Lib.hid hk1
  have hk1' : ¬ 4 < q.kind := by omega
  have hk1d : decide (4 < q.kind) = false := decide_eq_false hk1'
  by_cases hk2 : nx.kind ≤ 4
  case neg =>
    have hk2' : 4 < nx.kind := by omega
    have hk2d : decide (4 < nx.kind) = true := decide_eq_true hk2'
    go_wp2_with fail
    go_ret
    exact ⟨rfl, HB2.out⟩
  have HK2 := Lib.hid hk2
  have hk2' : ¬ 4 < nx.kind := by omega
  have hk2d : decide (4 < nx.kind) = false := decide_eq_false hk2'
  by_cases hl : s.pairs.length ≤ 250
  case neg =>
    have hl' : 250 < (s.pairs.length : Int) := by omega
    go_wp2_with fail
    go_ret
    exact ⟨rfl, HB2.out⟩
  have HL := Lib.hid hl
  have hl' : ¬ 250 < (s.pairs.length : Int) := by omega
  have hld : decide (250 < (s.pairs.length : Int)) = false := decide_eq_false hl'
  have RQ := Lib.hid ((Req.six K1.out).2.2.2.2.2.2)
  have RN := Lib.hid ((Req.six K2.out).2.2.2.2.2.2)
  go_wp2_with (first
    | (with_reducible refine loadM rfl 56 _ rfl B1 0 rfl 42 _ (Req.len _) _ RQ.out Tryd.underlying56 rfl size56 q.arr rfl ?_)
    | (with_reducible refine loadM rfl 56 _ rfl B2 0 rfl 42 _ (Req.len _) _ RN.out Tryd.underlying56 rfl size56 nx.arr rfl ?_)
    | (with_reducible refine twoNew rfl q nx _ _ rfl rfl rfl ?_))
  have hA3 := Lib.hid (show Below w2.heap.size w2 (w2.alloc (.cells (twoQ q nx) 56)) from (Below.refl _ _).alloc (Nat.le_refl _) _)
  have SW := Lib.hid (parts_swap HG.out.rises HC.out HK.out HK1.out HK2.out HL.out)
  refine (All_any Ap Ar Am cp cr cm 100 s (fun t => t = 56) _ 2 2 [q, nx] _ (HA.out.below (HB2.out.trans (hA3.out.mono HB2.out.size))) BD0.out (by decide) rfl (row_lit w2 56 42 [q.cells, nx.cells] (twoQ q nx) (by simp [Req.len]) (by simp [twoQ])) ((HT.out.below (HB2.out.trans (hA3.out.mono HB2.out.size))).mono (by have := HB2.out.size; rw [World.size_alloc]; omega))).mono ?_
  rintro e w3 ⟨Cp, ep, Cr, er, Cm, em, A1, c1, rfl, hsv, hrp, hb3⟩
  have hW3 := Lib.hid (hA3.out.trans (hb3.mono hA3.out.size))
  have HB3 := Lib.hid (HB2.out.trans (hW3.out.mono HB2.out.size))
  have hbx : BdS 102 (allS s [q, nx]) := allS_bd (n := 100) BD0.out [q, nx]
  have e21 : allS s [nx, q] = allS s [q, nx] := SW.out.1.symm
  have e22 : allR s [nx, q] = [applyR (applyS s q) nx, applyR s q] := by
    show [applyR s nx, applyR (applyS s nx) q] = _
    rw [SW.out.2.2, ← SW.out.2.1]
  have e11 : allR s [q, nx] = [applyR s q, applyR (applyS s q) nx] := rfl
  rw [e11] at hrp ⊢
  have E21 := Lib.hid e21
  have E22 := Lib.hid e22
  clear e21 e22 e11
  obtain ⟨x, hx⟩ : ∃ x, x = allS s [q, nx] := ⟨_, rfl⟩
  obtain ⟨r1, hr1⟩ : ∃ r, r = applyR s q := ⟨_, rfl⟩
  obtain ⟨r2, hr2⟩ : ∃ r, r = applyR (applyS s q) nx := ⟨_, rfl⟩
  have HV1 := Lib.hid (show r1.vals.length ≤ 300 from by rw [hr1]; exact applyR_vals BD0.out)
  have HV2 := Lib.hid (show r2.vals.length ≤ 300 from by rw [hr2]; exact applyR_vals BD0.out.step)
  rw [← hx] at hsv hbx E21 ⊢
  rw [← hr1, ← hr2] at hrp E22 ⊢
  have HSV := Lib.hid hsv
  have HRP := Lib.hid hrp
  have BDX := Lib.hid hbx
  have I0 := Lib.hid (blk_later hW3.out K0.out)
  have I1 := Lib.hid (blk_later hW3.out K1.out)
  have I2 := Lib.hid (blk_later hW3.out K2.out)
  clear hx hr1 hr2 hsv hrp hbx hb3 hA3 hW3 a0 a1 a2 a3 a4 q0 q2 q3 n0 n2 n3 z0 z1 z2 RQ RN K0 K1 K2 hc hk1 hk1' hk2 hk2' hl hl' SW hcb hk1d hk2d hld hke
  obtain ⟨a0, a1, a2, a3, a4⟩ := four I0.out
  have z0 : B0 < w3.heap.size := heap_lt I0.out
  have z1 : B1 < w3.heap.size := heap_lt I1.out
  have z2 : B2 < w3.heap.size := heap_lt I2.out
  have hX1 := Lib.hid (show Below w3.heap.size w3 (w3.alloc (.cells #[.slice Cp x.pairs.length ep, .slice Cr x.reps.length er, .int .i64 x.epoch, .slice Cm x.mbs.length em] 28)) from (Below.refl _ _).alloc (Nat.le_refl _) _)
  have RQ := Lib.hid ((Req.six (blk_later hX1.out I1.out)).2.2.2.2.2.2)
  have RN := Lib.hid ((Req.six (blk_later hX1.out I2.out)).2.2.2.2.2.2)
  simp only [List.length_cons, List.length_nil, Nat.zero_add, Nat.reduceAdd]
  go_wp2_with (first
    | (with_reducible refine loadM rfl 56 _ rfl B1 0 rfl 42 _ (Req.len _) _ RQ.out Tryd.underlying56 rfl size56 q.arr rfl ?_)
    | (with_reducible refine loadM rfl 56 _ rfl B2 0 rfl 42 _ (Req.len _) _ RN.out Tryd.underlying56 rfl size56 nx.arr rfl ?_)
    | (with_reducible refine twoNew rfl nx q _ _ rfl rfl rfl ?_))
  have hA3 := Lib.hid (show Below w3.heap.size w3 ((w3.alloc (.cells #[.slice Cp x.pairs.length ep, .slice Cr x.reps.length er, .int .i64 x.epoch, .slice Cm x.mbs.length em] 28)).alloc (.cells (twoQ nx q) 56)) from hX1.out.alloc (by rw [World.size_alloc]; omega) _)
  have hrl := row_lit (w3.alloc (.cells #[.slice Cp x.pairs.length ep, .slice Cr x.reps.length er, .int .i64 x.epoch, .slice Cm x.mbs.length em] 28)) 56 42 [nx.cells, q.cells] (twoQ nx q) (by simp [Req.len]) (by simp [twoQ])
  rw [World.size_alloc] at hrl
  have HRL := Lib.hid hrl
  clear hrl
  refine (All_any Ap Ar Am cp cr cm 100 s (fun t => t = 56) (some ⟨w3.heap.size + 1, 0, none⟩) 2 2 [nx, q] _ (HA.out.below (HB3.out.trans (hA3.out.mono HB3.out.size))) BD0.out (by decide) rfl HRL.out ((HT.out.below (HB3.out.trans (hA3.out.mono HB3.out.size))).mono (by have := HB3.out.size; simp only [World.size_alloc]; omega))).mono ?_
  rintro e w4 ⟨Dp, fp, Dr, fr, Dm, fm, A2, c2, rfl, hsv, hrp, hb4⟩
  rw [E21.out] at hsv ⊢
  rw [E22.out] at hrp ⊢
  simp only [List.length_cons, List.length_nil, Nat.zero_add, Nat.reduceAdd]
  have hW4 := Lib.hid (hA3.out.trans (hb4.mono (by simp only [World.size_alloc]; omega)))
  have HB4 := Lib.hid (HB3.out.trans (hW4.out.mono HB3.out.size))
  have KX := Lib.hid (blk_later hb4 (at_up (heap_alloc_last w3 (.cells #[.slice Cp x.pairs.length ep, .slice Cr x.reps.length er, .int .i64 x.epoch, .slice Cm x.mbs.length em] 28)) (.cells (twoQ nx q) 56)))
  have HSV1 := Lib.hid (HSV.out.below hW4.out)
  have HRP1 := Lib.hid (HRP.out.below hW4.out)
  have HSV2 := Lib.hid hsv
  have HRP2 := Lib.hid hrp
  obtain ⟨X, hX⟩ : ∃ X, X = w3.heap.size := ⟨_, rfl⟩
  rw [← hX] at KX
  rw [← hX]
  clear hX hsv hrp hb4 hA3 hW4 a0 a1 a2 a3 a4 z0 z1 z2 RQ RN I0 I1 I2 hX1 HSV HRP E21 E22
  have zX : X < w4.heap.size := heap_lt KX.out
  obtain ⟨a0, a1, a2, a3, a4⟩ := four KX.out
  go_wp2_with fail
  have hZ := Lib.hid (show Below w4.heap.size w4 (w4.alloc (.cells #[.slice Dp x.pairs.length fp, .slice Dr x.reps.length fr, .int .i64 x.epoch, .slice Dm x.mbs.length fm] 28)) from (Below.refl _ _).alloc (Nat.le_refl _) _)
  have KX5 := Lib.hid (blk_later hZ.out KX.out)
  have KZ5 := Lib.hid (heap_alloc_last w4 (.cells #[.slice Dp x.pairs.length fp, .slice Dr x.reps.length fr, .int .i64 x.epoch, .slice Dm x.mbs.length fm] 28))
  have HSV3 := Lib.hid (HSV1.out.below hZ.out)
  have HRP3 := Lib.hid (HRP1.out.below hZ.out)
  have HSV4 := Lib.hid (HSV2.out.below hZ.out)
  have HRP4 := Lib.hid (HRP2.out.below hZ.out)
  have HB5 := Lib.hid (HB4.out.trans (hZ.out.mono HB4.out.size))
  obtain ⟨Z, hZZ⟩ : ∃ Z, Z = w4.heap.size := ⟨_, rfl⟩
  obtain ⟨w5, hw5⟩ : ∃ u, u = w4.alloc (.cells #[.slice Dp x.pairs.length fp, .slice Dr x.reps.length fr, .int .i64 x.epoch, .slice Dm x.mbs.length fm] 28) := ⟨_, rfl⟩
  rw [← hw5] at KX5 KZ5 HSV3 HRP3 HSV4 HRP4 HB5
  rw [← hZZ] at KZ5
  rw [← hZZ, ← hw5]
  clear hw5 hZZ hZ KX HSV1 HRP1 HSV2 HRP2 a0 a1 a2 a3 a4 zX HB4
  obtain ⟨g1, o1, V1, v1, V2, v2, hA1, hg1, x0, x1, x2, x3, x4, x5, x6, x7, row1, row2⟩ := HRP3.out.two
  obtain ⟨g2, o2, U2, u2, U1, u1, hA2, hg2, y0, y1, y2, y3, y4, y5, y6, y7, row4, row3⟩ := HRP4.out.two
  subst hA1
  subst hA2
  obtain ⟨a0, a1, a2, a3, a4⟩ := four KX5.out
  obtain ⟨b0, b1, b2, b3, b4⟩ := four KZ5.out
  have zX : X < w5.heap.size := heap_lt KX5.out
  have zZ : Z < w5.heap.size := heap_lt KZ5.out
  have wa0 := Wd.cell a0 zX
  have wa1 := Wd.cell a1 zX
  have wa2 := Wd.cell a2 zX
  have wa3 := Wd.cell a3 zX
  have wb0 := Wd.cell b0 zZ
  have wb1 := Wd.cell b1 zZ
  have wb2 := Wd.cell b2 zZ
  have wb3 := Wd.cell b3 zZ
  have wx0 := Wd.cell x0 hg1
  have wx1 := Wd.cell x1 hg1
  have wx2 := Wd.cell x2 hg1
  have wx3 := Wd.cell x3 hg1
  have wx4 := Wd.cell x4 hg1
  have wx5 := Wd.cell x5 hg1
  have wx6 := Wd.cell x6 hg1
  have wx7 := Wd.cell x7 hg1
  have wy0 := Wd.cell y0 hg2
  have wy1 := Wd.cell y1 hg2
  have wy2 := Wd.cell y2 hg2
  have wy3 := Wd.cell y3 hg2
  have wy4 := Wd.cell y4 hg2
  have wy5 := Wd.cell y5 hg2
  have wy6 := Wd.cell y6 hg2
  have wy7 := Wd.cell y7 hg2
  have hc19 : ∀ i : Wd w5, Calls Tryd.prog 19 #[.agg #[.slice Cp x.pairs.length ep, .slice Cr x.reps.length er, .int .i64 x.epoch, .slice Cm x.mbs.length em], .agg #[.slice Dp x.pairs.length fp, .slice Dr x.reps.length fr, .int .i64 x.epoch, .slice Dm x.mbs.length fm]] i.wd fun e w' => e = .returned (.bool true) ∧ Below i.wd.heap.size i.wd w' := fun i => by
    have := Same_any Cp Cr Cm Dp Dr Dm _ ep _ er _ em _ fp _ fr _ fm x.epoch x.epoch x.pairs x.pairs x.reps x.reps x.mbs x.mbs i.wd rfl rfl rfl rfl rfl rfl (HSV3.out.below i.be) (HSV4.out.below i.be) (Nat.le_trans BDX.out.p (by decide)) (Nat.le_trans BDX.out.r (by decide)) (Nat.le_trans BDX.out.m (by decide)) BDX.out.vk
    rw [show sameS ⟨x.pairs, x.reps, x.epoch, x.mbs⟩ ⟨x.pairs, x.reps, x.epoch, x.mbs⟩ = true from sameS_refl _] at this
    exact this
  have hlen1 : r1.vals.length ≤ 1000000 := Nat.le_trans HV1.out (by decide)
  have hlen2 : r2.vals.length ≤ 1000000 := Nat.le_trans HV2.out (by decide)
  have hcA : ∀ i : Wd w5, Calls Tryd.prog 16 #[.agg #[.int .i64 r1.client, .int .i64 r1.num, .int .i64 r1.code, .slice V1 r1.vals.length v1], .agg #[.int .i64 r1.client, .int .i64 r1.num, .int .i64 r1.code, .slice U1 r1.vals.length u1]] i.wd fun e w' => e = .returned (.bool true) ∧ Below i.wd.heap.size i.wd w' := fun i => by
    have := SameR_any _ _ V1 U1 _ v1 _ u1 r1 r1 i.wd rfl rfl (row1.below i.be) (row3.below i.be) hlen1
    rw [sameR_refl] at this
    exact this
  have hcB : ∀ i : Wd w5, Calls Tryd.prog 16 #[.agg #[.int .i64 r2.client, .int .i64 r2.num, .int .i64 r2.code, .slice V2 r2.vals.length v2], .agg #[.int .i64 r2.client, .int .i64 r2.num, .int .i64 r2.code, .slice U2 r2.vals.length u2]] i.wd fun e w' => e = .returned (.bool true) ∧ Below i.wd.heap.size i.wd w' := fun i => by
    have := SameR_any _ _ V2 U2 _ v2 _ u2 r2 r2 i.wd rfl rfl (row2.below i.be) (row4.below i.be) hlen2
    rw [sameR_refl] at this
    exact this
  clear a0 a1 a2 a3 a4 b0 b1 b2 b3 b4 x0 x1 x2 x3 x4 x5 x6 x7 y0 y1 y2 y3 y4 y5 y6 y7
  refine region_wd _ (by kernel_rfl) (by kernel_rfl) ?_
  iterate 12 (go_big_quiet_step (exact Wd.call _ (hc19 _)))
  iterate 9 (go_big_quiet_step (exact Wd.call _ (hcA _)))
  iterate 11 (go_big_quiet_step (exact Wd.call _ (hcB _)))
  refine wpQuiet_nil ?_
  rintro _ ⟨i, rfl⟩
  go_wp2_with fail
  go_ret
  exact ⟨rfl, HB5.out.trans (i.be.mono HB5.out.size)⟩
end Go.Proofs.YtchnnplcpidkiaaDoor
