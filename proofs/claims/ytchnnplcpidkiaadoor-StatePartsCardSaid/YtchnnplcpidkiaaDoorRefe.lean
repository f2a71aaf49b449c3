/-
  The contract of the reference's test of a registry's greatness.
-/
import Derived.Test.YtchnnplcpidkiaaDoorRefd
namespace Go.Proofs.YtchnnplcpidkiaaDoor
open Go.RowKit

/-- What a registry that is not great keeps to. -/
structure GB (most : Int) (s : St) : Prop where
  p : s.pairs.length ≤ 300
  r : s.reps.length ≤ 100
  m : s.mbs.length ≤ 20
  pz : ∀ k, k < s.pairs.length → ((keyOf s.pairs k).size : Int) + (valOf s.pairs k).size ≤ most
  v : ∀ k, k < s.reps.length → (repOf s.reps k).vals.length ≤ 300
  vz : ∀ k, k < s.reps.length → ∀ j, j < (repOf s.reps k).vals.length → ((strOf (repOf s.reps k).vals j).size : Int) ≤ most
/-- Texts as long as texts can be. -/
structure SZ (s : St) : Prop where
  p : ∀ k, k < s.pairs.length → (keyOf s.pairs k).size ≤ 1152921504606846976 ∧ (valOf s.pairs k).size ≤ 1152921504606846976
  v : ∀ k, k < s.reps.length → ∀ j, j < (repOf s.reps k).vals.length → (strOf (repOf s.reps k).vals j).size ≤ 1152921504606846976

def GreatPost (w : World) (most : Int) (s : St) (E : Ending) (w' : World) : Prop := ∃ b, E = .returned (.bool b) ∧ (b = false → GB most s) ∧ Below w.heap.size w w'
set_option maxHeartbeats 1000000 in
set_option maxRecDepth 100000 in
theorem Great_any (Ap Ar Am : Option Addr) (np cp nr cr nm cm : Nat) (ep most : Int) (ps : List Pr) (rs : List Rp) (ms : List Mb) (w : World)
    (lp : ps.length = np) (lr : rs.length = nr) (lm : ms.length = nm) (h : SV w Ap Ar Am ⟨ps, rs, ep, ms⟩) (hz : SZ ⟨ps, rs, ep, ms⟩) (hm0 : 0 ≤ most) (hm : most ≤ 1000000) :
    Calls Tryd.prog 27 #[.agg #[.slice Ap np cp, .slice Ar nr cr, .int .i64 ep, .slice Am nm cm], .int .i64 most] w
      (GreatPost w most ⟨ps, rs, ep, ms⟩) := by
  have HA := Lib.hid h
  have HZ := Lib.hid hz
  have LP := Lib.hid lp
  have LR := Lib.hid lr
  have LM := Lib.hid lm
  clear h hz lp lr lm
  have HB0 := Lib.hid (show Below w.heap.size w (w.alloc (.cells #[.slice Ap np cp, .slice Ar nr cr, .int .i64 ep, .slice Am nm cm] 28)) from (Below.refl _ _).alloc (Nat.le_refl _) _)
  by_cases g1 : np ≤ 300
  case neg =>
    have g1' : 300 < (np : Int) := by omega
    go_enter Tryd.func27, Tryd.ntmps27
    go_wp2_with fail
    go_ret
    exact ⟨true, rfl, (fun h => by cases h), HB0.out⟩
  have g1' : ¬ 300 < (np : Int) := by omega
  by_cases g2 : nr ≤ 100
  case neg =>
    have g2' : 100 < (nr : Int) := by omega
    go_enter Tryd.func27, Tryd.ntmps27
    go_wp2_with fail
    go_ret
    exact ⟨true, rfl, (fun h => by cases h), HB0.out⟩
  have g2' : ¬ 100 < (nr : Int) := by omega
  by_cases g3 : nm ≤ 20
  case neg =>
    have g3' : 20 < (nm : Int) := by omega
    go_enter Tryd.func27, Tryd.ntmps27
    go_wp2_with fail
    go_ret
    exact ⟨true, rfl, (fun h => by cases h), HB0.out⟩
  have g3' : ¬ 20 < (nm : Int) := by omega
  have kA := heap_alloc_last w (.cells #[.slice Ap np cp, .slice Ar nr cr, .int .i64 ep, .slice Am nm cm] 28)
  go_enter Tryd.func27, Tryd.ntmps27
  go_wp2_with fail
  obtain ⟨w1, hw1⟩ : ∃ w1, w1 = w.alloc (.cells #[.slice Ap np cp, .slice Ar nr cr, .int .i64 ep, .slice Am nm cm] 28) := ⟨_, rfl⟩
  rw [← hw1] at HB0 kA ⊢
  clear hw1
  have KA := Lib.hid kA
  clear kA
  go_loopw [32, 5] (fun i n wr => ∃ k : Nat, ∃ m : Int, k ≤ np ∧ i = .int .i64 k ∧ n = .int .i64 m ∧ 0 ≤ m ∧ m ≤ most ∧ Below w1.heap.size w1 wr ∧ Hid (∀ j, j < k → ((keyOf ps j).size : Int) + (valOf ps j).size ≤ most))
    (fun i _ _ => np - (intOf i).toNat)
  case atStart => exact ⟨0, 0, Nat.zero_le _, rfl, rfl, by omega, hm0, Below.refl _ _, fun j hj => absurd hj (Nat.not_lt_zero _)⟩
  case round =>
    obtain ⟨k, m, hk, rfl, rfl, hm1, hm2, hbel, HF⟩ := hrel
    have hs := hbel.size
    have hz0 : w.heap.size < wr.heap.size := heap_lt (blk_later hbel KA.out)
    obtain ⟨a0, a1, a2, a3, a4⟩ := four (blk_later hbel KA.out)
    by_cases hlt : k < np
    · obtain ⟨g, off, hA, hg, q0, q1⟩ := (HA.out.p.below (HB0.out.trans (hbel.mono HB0.out.size))).pair (k := k) (by show k < ps.length; rw [LP.out]; exact hlt)
      subst hA
      have hki : (k : Int) < np := by omega
      obtain ⟨x1, x2⟩ := HZ.out.p k (by show k < ps.length; rw [LP.out]; exact hlt)
      have x1' : (keyOf ps k).size ≤ 1152921504606846976 := x1
      have x2' : (valOf ps k).size ≤ 1152921504606846976 := x2
      clear x1 x2
      have x3 : wrap64 (m + 1) = m + 1 := by simp only [wrap64]; omega
      have x4 : wrap64 (m + 1 + (keyOf ps k).size) = m + 1 + (keyOf ps k).size := by simp only [wrap64]; omega
      have x5 : wrap64 (m + 1 + (keyOf ps k).size + (valOf ps k).size) = m + 1 + (keyOf ps k).size + (valOf ps k).size := by simp only [wrap64]; omega
      by_cases hc : m + 1 + (keyOf ps k).size + (valOf ps k).size ≤ most
      · go_wp2_with fail
        go_roundw
        case rel => exact ⟨k + 1, m + 1 + (keyOf ps k).size + (valOf ps k).size, by omega, by go_num, rfl, by omega, hc, hbel.alloc hs _, fun j hj => by
          rcases Nat.lt_or_ge j k with h | h
          · exact HF.out j h
          · obtain rfl : j = k := by omega
            omega⟩
        case measure => simp only [intOf]; omega
      · go_wp2_with fail
        go_ret
        exact ⟨true, rfl, (fun h => by cases h), HB0.out.trans ((hbel.alloc hs _).mono HB0.out.size)⟩
    · obtain rfl : k = np := by omega
      go_wp2_with fail
      have HPZ := Lib.hid HF.out
      have KA2 := Lib.hid (blk_later hbel KA.out)
      have HB2 := Lib.hid (HB0.out.trans (hbel.mono HB0.out.size))
      clear a0 a1 a2 a3 a4 hz0 hlt hk HF
      obtain ⟨w2, hw2⟩ : ∃ x, x = wr := ⟨_, rfl⟩
      rw [← hw2] at KA2 HB2 ⊢
      clear hw2 hs hbel
      go_loopw [53, 5] (fun i n wr => ∃ k : Nat, ∃ m : Int, k ≤ nr ∧ i = .int .i64 k ∧ n = .int .i64 m ∧ 0 ≤ m ∧ m ≤ most ∧ Below w2.heap.size w2 wr ∧
          Hid (∀ j, j < k → (repOf rs j).vals.length ≤ 300 ∧ ∀ l, l < (repOf rs j).vals.length → ((strOf (repOf rs j).vals l).size : Int) ≤ most))
        (fun i _ _ => nr - (intOf i).toNat)
      case atStart => exact ⟨0, m, Nat.zero_le _, rfl, rfl, hm1, hm2, Below.refl _ _, fun j hj => absurd hj (Nat.not_lt_zero _)⟩
      case round =>
        clear hm1 hm2
        obtain ⟨h, m, hk, rfl, rfl, hm1, hm2, hbel, HF⟩ := hrel
        have hs := hbel.size
        have hz0 : w.heap.size < wr.heap.size := heap_lt (blk_later hbel KA2.out)
        obtain ⟨a0, a1, a2, a3, a4⟩ := four (blk_later hbel KA2.out)
        by_cases hlt : h < nr
        · obtain ⟨g, off, Av, cv, hA, hg, q0, q1, q2, q3o, j4, hrow⟩ := (HA.out.r.below (HB2.out.trans (hbel.mono HB2.out.size))).at (k := h) (by show h < rs.length; rw [LR.out]; exact hlt)
          subst hA
          have hki : (h : Int) < nr := by omega
          have HZV := Lib.hid (HZ.out.v h (by show h < rs.length; rw [LR.out]; exact hlt))
          have HROW := Lib.hid hrow
          clear hrow
          obtain ⟨vs, hvs⟩ : ∃ vs, vs = (repOf rs h).vals := ⟨_, rfl⟩
          have q3 : wr.cell? ⟨g, off + h * 4 + 3, none⟩ = some (.slice Av vs.length cv) := by rw [hvs]; exact q3o
          clear q3o j4
          have HVS := Lib.hid hvs
          have HROW : Hid (Row wr (fun _ => True) 1 Av (vs.map strC)) := Lib.hid (by rw [hvs]; exact HROW.out)
          have HZV : Hid (∀ j, j < vs.length → (strOf vs j).size ≤ 1152921504606846976) := Lib.hid (by rw [hvs]; exact HZV.out)
          clear hvs
          obtain ⟨nv, hnv⟩ : ∃ nv, nv = vs.length := ⟨_, rfl⟩
          rw [← hnv] at q3
          have HNV := Lib.hid hnv
          clear hnv
          by_cases hv : nv ≤ 300
          · have hv' : ¬ 300 < (nv : Int) := by omega
            go_wp2_with fail
            have kE := Lib.hid (heap_alloc_last wr (.cells #[.int .i64 (repOf rs h).client, .int .i64 (repOf rs h).num, .int .i64 (repOf rs h).code, .slice Av nv cv] 36))
            have hb3 := Lib.hid (show Below w2.heap.size w2 (wr.alloc (.cells #[.int .i64 (repOf rs h).client, .int .i64 (repOf rs h).num, .int .i64 (repOf rs h).code, .slice Av nv cv] 36)) from hbel.alloc hs _)
            have HROW3 : Hid (Row (wr.alloc (.cells #[.int .i64 (repOf rs h).client, .int .i64 (repOf rs h).num, .int .i64 (repOf rs h).code, .slice Av nv cv] 36)) (fun _ => True) 1 Av (vs.map strC)) := Lib.hid (HROW.out.below ((Below.refl _ _).alloc (Nat.le_refl _) _))
            obtain ⟨w3, hw3⟩ : ∃ x, x = (wr.alloc (.cells #[.int .i64 (repOf rs h).client, .int .i64 (repOf rs h).num, .int .i64 (repOf rs h).code, .slice Av nv cv] 36)) := ⟨_, rfl⟩
            rw [← hw3] at kE hb3 HROW3 ⊢
            clear hw3 a0 a1 a2 a3 a4 q0 q1 q2 q3 hz0 hs hbel HROW
            go_loopw [64, 5] (fun i n wr => ∃ k : Nat, ∃ m : Int, k ≤ nv ∧ i = .int .i64 k ∧ n = .int .i64 m ∧ 0 ≤ m ∧ m ≤ most ∧ Below w3.heap.size w3 wr ∧ Hid (∀ l, l < k → ((strOf vs l).size : Int) ≤ most))
              (fun i _ _ => nv - (intOf i).toNat)
            case atStart => exact ⟨0, m, Nat.zero_le _, rfl, rfl, hm1, hm2, Below.refl _ _, fun j hj => absurd hj (Nat.not_lt_zero _)⟩
            case round =>
              clear hm1 hm2
              obtain ⟨l, m, hl, rfl, rfl, hm1, hm2, hbel, HF3⟩ := hrel
              have hs := hbel.size
              by_cases hll : l < nv
              · obtain ⟨gv, offv, hV, hgv, c0⟩ := (HROW3.out.below hbel).text (k := l) (by rw [← HNV.out]; exact hll)
                subst hV
                have hli : (l : Int) < nv := by omega
                have x1 := HZV.out l (by rw [← HNV.out]; exact hll)
                have x3 : wrap64 (m + 1) = m + 1 := by simp only [wrap64]; omega
                have x4 : wrap64 (m + 1 + (strOf vs l).size) = m + 1 + (strOf vs l).size := by simp only [wrap64]; omega
                by_cases hc : m + 1 + (strOf vs l).size ≤ most
                · go_wp2_with fail
                  go_roundw
                  case rel => exact ⟨l + 1, m + 1 + (strOf vs l).size, by omega, by go_num, rfl, by omega, hc, hbel, fun j hj => by
                    rcases Nat.lt_or_ge j l with h | h
                    · exact HF3.out j h
                    · obtain rfl : j = l := by omega
                      omega⟩
                  case measure => simp only [intOf]; omega
                · go_wp2_with fail
                  go_ret
                  exact ⟨true, rfl, (fun h => by cases h), HB2.out.trans ((hb3.out.trans (hbel.mono hb3.out.size)).mono HB2.out.size)⟩
              · obtain rfl : l = nv := by omega
                go_wp2_with fail
                go_roundw
                case rel => exact ⟨h + 1, m, by omega, by go_num, rfl, hm1, hm2, hb3.out.trans (hbel.mono hb3.out.size), fun j hj => by
                  rcases Nat.lt_or_ge j h with hh | hh
                  · exact HF.out j hh
                  · obtain rfl : j = h := by omega
                    rw [← HVS.out, ← HNV.out]
                    exact ⟨hv, HF3.out⟩⟩
                case measure => simp only [intOf]; omega
          · have hv' : 300 < (nv : Int) := by omega
            go_wp2_with fail
            go_ret
            exact ⟨true, rfl, (fun h => by cases h), HB2.out.trans ((hbel.alloc hs _).mono HB2.out.size)⟩
        · obtain rfl : h = nr := by omega
          go_wp2_with fail
          go_ret
          refine ⟨false, rfl, fun _ => ⟨?_, ?_, ?_, ?_, ?_, ?_⟩, HB2.out.trans (hbel.mono HB2.out.size)⟩
          · show ps.length ≤ 300; rw [LP.out]; exact g1
          · show rs.length ≤ 100; rw [LR.out]; exact g2
          · show ms.length ≤ 20; rw [LM.out]; exact g3
          · intro k hk; exact HPZ.out k (by rw [← LP.out]; exact hk)
          · intro k hk; exact (HF.out k (by rw [← LR.out]; exact hk)).1
          · intro k hk; exact (HF.out k (by rw [← LR.out]; exact hk)).2
end Go.Proofs.YtchnnplcpidkiaaDoor
