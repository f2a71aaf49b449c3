/-
  The contracts of the reference's test of a registry's order and of its greatness, and of the laws' own test.
-/
import Derived.Test.YtchnnplcpidkiaaDoorRefc
namespace Go.Proofs.YtchnnplcpidkiaaDoor
open Go.RowKit

def dipP (ps : List Pr) (i : Nat) : Bool := decide (0 < i) && !(Op.bytesLess (keyOf ps (i - 1)).toList (keyOf ps i).toList)
def dipR (rs : List Rp) (i : Nat) : Bool := decide (0 < i) && decide ((repOf rs i).client ≤ (repOf rs (i - 1)).client)
def risesP (ps : List Pr) : Bool := decide (∀ i, i < ps.length → dipP ps i = false)
def risesR (rs : List Rp) : Bool := decide (∀ i, i < rs.length → dipR rs i = false)
def risesS (s : St) : Bool := risesP s.pairs && risesR s.reps
theorem risesP_bad {ps : List Pr} {k : Nat} (hk : k < ps.length) (h : dipP ps k = true) : risesP ps = false := decide_eq_false (fun hall => by rw [hall k hk] at h; cases h)
theorem risesR_bad {ps : List Rp} {k : Nat} (hk : k < ps.length) (h : dipR ps k = true) : risesR ps = false := decide_eq_false (fun hall => by rw [hall k hk] at h; cases h)

set_option maxHeartbeats 1000000 in
set_option maxRecDepth 100000 in
theorem Rises_any (Ap Ar : Option Addr) (np cp nr cr : Nat) (v2 v3 : Value) (ps : List Pr) (rs : List Rp) (T T1 T2 : TypeId → Prop) (w : World)
    (lp : ps.length = np) (lr : rs.length = nr) (hp : Row w T 2 Ap (ps.map Pr.cells)) (hr : Reps w T1 T2 Ar rs) (b1 : np ≤ 1000000) (b2 : nr ≤ 1000000) :
    Calls Tryd.prog 20 #[.agg #[.slice Ap np cp, .slice Ar nr cr, v2, v3]] w
      fun e w' => e = .returned (.bool (risesP ps && risesR rs)) ∧ Below w.heap.size w w' := by
  have HA := Lib.hid hp
  have HB := Lib.hid hr
  have LP := Lib.hid lp
  have LR := Lib.hid lr
  clear hp hr lp lr
  have hb1 := (show Below w.heap.size w (w.alloc (.cells #[.slice Ap np cp, .slice Ar nr cr, v2, v3] 28)) from (Below.refl _ _).alloc (Nat.le_refl _) _)
  have kA := heap_alloc_last w (.cells #[.slice Ap np cp, .slice Ar nr cr, v2, v3] 28)
  go_enter Tryd.func20, Tryd.ntmps20
  go_wp2_with fail
  obtain ⟨w1, hw1⟩ : ∃ w1, w1 = w.alloc (.cells #[.slice Ap np cp, .slice Ar nr cr, v2, v3] 28) := ⟨_, rfl⟩
  rw [← hw1] at hb1 kA ⊢
  clear hw1
  have HB1 := Lib.hid hb1
  have KA := Lib.hid kA
  clear hb1 kA
  go_loopw [8] (fun i wr => ∃ k : Nat, k ≤ np ∧ i = .int .i64 k ∧ Below w1.heap.size w1 wr ∧ Hid (∀ j, j < k → dipP ps j = false))
    (fun i _ => np - (intOf i).toNat)
  case atStart => exact ⟨0, Nat.zero_le _, rfl, Below.refl _ _, fun j hj => absurd hj (Nat.not_lt_zero _)⟩
  case round =>
    obtain ⟨k, hk, rfl, hbel, HF⟩ := hrel
    have hs := hbel.size
    have hz0 : w.heap.size < wr.heap.size := heap_lt (blk_later hbel KA.out)
    obtain ⟨a0, a1, a2, a3, a4⟩ := four (blk_later hbel KA.out)
    by_cases hlt : k < np
    · obtain ⟨g, off, hA, hg, q0, q1⟩ := (HA.out.below (HB1.out.trans (hbel.mono HB1.out.size))).pair (k := k) (by show k < ps.length; rw [LP.out]; exact hlt)
      have hki : (k : Int) < np := by omega
      go_wp2_with fail
      have wd0 := Wd.cell a0 hz0
      have wd2 := Wd.cell q0 hg
      by_cases hk0 : k = 0
      · subst hk0
        refine region_wd _ (by kernel_rfl) (by kernel_rfl) ?_
        repeat (go_big_quiet_step (fail))
        refine wpQuiet_nil ?_
        rintro _ ⟨i, rfl⟩
        go_wp2_with fail
        go_roundw
        case rel => exact ⟨1, by omega, by go_num, hbel.trans (i.be.mono hs), fun j hj => by
          obtain rfl : j = 0 := by omega
          rfl⟩
        case measure => simp only [intOf]; omega
      · obtain ⟨p, rfl⟩ : ∃ p, k = p + 1 := ⟨k - 1, by omega⟩
        obtain ⟨g', off', hA', hg', r0, r1⟩ := (HA.out.below (HB1.out.trans (hbel.mono HB1.out.size))).pair (k := p) (by show p < ps.length; rw [LP.out]; omega)
        subst hA
        cases hA'
        have wd1 := Wd.cell r0 hg
        have hpn : p < np := by omega
        have hpi : (p : Int) < np := by omega
        have hpw : wrap64 (p : Int) = p := by simp only [wrap64]; omega
        cases hq : dipP ps (p + 1)
        · have hq' : Op.bytesLess (keyOf ps p).toList (keyOf ps (p + 1)).toList = true := by simpa [dipP] using hq
          have HQ := Lib.hid hq
          refine region_wd _ (by kernel_rfl) (by kernel_rfl) ?_
          repeat (go_big_quiet_step (fail))
          refine wpQuiet_nil ?_
          rintro _ ⟨i, rfl⟩
          go_wp2_with fail
          go_roundw
          case rel => exact ⟨p + 2, by omega, by go_num, hbel.trans (i.be.mono hs), fun j hj => by
            rcases Nat.lt_or_ge j (p + 1) with h | h
            · exact HF.out j h
            · obtain rfl : j = p + 1 := by omega
              exact HQ.out⟩
          case measure =>
            show np - ((p : Int) + 1 + 1).toNat < np - ((p + 1 : Nat) : Int).toNat
            clear hpw
            omega
        · have hq' : Op.bytesLess (keyOf ps p).toList (keyOf ps (p + 1)).toList = false := by simpa [dipP] using hq
          have HQ := Lib.hid hq
          refine region_wd _ (by kernel_rfl) (by kernel_rfl) ?_
          repeat (go_big_quiet_step (fail))
          refine wpQuiet_nil ?_
          rintro _ ⟨i, rfl⟩
          go_wp2_with fail
          go_ret
          exact ⟨by rw [risesP_bad (by rw [LP.out]; exact hlt) HQ.out]; rfl, HB1.out.trans ((hbel.trans (i.be.mono hs)).mono HB1.out.size)⟩
    · obtain rfl : k = np := by omega
      go_wp2_with fail
      have HSP := Lib.hid (show risesP ps = true from decide_eq_true (by rw [LP.out]; exact HF.out))
      have KA2 := Lib.hid (blk_later hbel KA.out)
      have HB2 := Lib.hid (HB1.out.trans (hbel.mono HB1.out.size))
      clear a0 a1 a2 a3 a4 hz0 hlt hk HF
      obtain ⟨w2, hw2⟩ : ∃ x, x = wr := ⟨_, rfl⟩
      rw [← hw2] at KA2 HB2 ⊢
      clear hw2 hs hbel
      go_loopw [33] (fun i wr => ∃ k : Nat, k ≤ nr ∧ i = .int .i64 k ∧ Below w2.heap.size w2 wr ∧ Hid (∀ j, j < k → dipR rs j = false))
        (fun i _ => nr - (intOf i).toNat)
      case atStart => exact ⟨0, Nat.zero_le _, rfl, Below.refl _ _, fun j hj => absurd hj (Nat.not_lt_zero _)⟩
      case round =>
        obtain ⟨m, hk, rfl, hbel, HF⟩ := hrel
        have hs := hbel.size
        have hz0 : w.heap.size < wr.heap.size := heap_lt (blk_later hbel KA2.out)
        obtain ⟨a0, a1, a2, a3, a4⟩ := four (blk_later hbel KA2.out)
        by_cases hlt : m < nr
        · obtain ⟨g, off, Av, cv, hA, hg, q0, j1, j2, j3, j4, j5⟩ := (HB.out.below (HB2.out.trans (hbel.mono HB2.out.size))).at (k := m) (by show m < rs.length; rw [LR.out]; exact hlt)
          clear j1 j2 j3 j4 j5
          have hki : (m : Int) < nr := by omega
          go_wp2_with fail
          have wd0 := Wd.cell a1 hz0
          have wd2 := Wd.cell q0 hg
          by_cases hk0 : m = 0
          · subst hk0
            refine region_wd _ (by kernel_rfl) (by kernel_rfl) ?_
            repeat (go_big_quiet_step (fail))
            refine wpQuiet_nil ?_
            rintro _ ⟨i, rfl⟩
            go_wp2_with fail
            go_roundw
            case rel => exact ⟨1, by omega, by go_num, hbel.trans (i.be.mono hs), fun j hj => by
              obtain rfl : j = 0 := by omega
              rfl⟩
            case measure => simp only [intOf]; omega
          · obtain ⟨p, rfl⟩ : ∃ p, m = p + 1 := ⟨m - 1, by omega⟩
            obtain ⟨g', off', Av', cv', hA', hg', r0, j1, j2, j3, j4, j5⟩ := (HB.out.below (HB2.out.trans (hbel.mono HB2.out.size))).at (k := p) (by show p < rs.length; rw [LR.out]; omega)
            clear j1 j2 j3 j4 j5
            subst hA
            cases hA'
            have wd1 := Wd.cell r0 hg
            have hpn : p < nr := by omega
            have hpi : (p : Int) < nr := by omega
            have hpw : wrap64 (p : Int) = p := by simp only [wrap64]; omega
            cases hq : dipR rs (p + 1)
            · have hq' : ¬ (repOf rs (p + 1)).client ≤ (repOf rs p).client := by simpa [dipR] using hq
              have HQ := Lib.hid hq
              refine region_wd _ (by kernel_rfl) (by kernel_rfl) ?_
              repeat (go_big_quiet_step (fail))
              refine wpQuiet_nil ?_
              rintro _ ⟨i, rfl⟩
              go_wp2_with fail
              go_roundw
              case rel => exact ⟨p + 2, by omega, by go_num, hbel.trans (i.be.mono hs), fun j hj => by
                rcases Nat.lt_or_ge j (p + 1) with h | h
                · exact HF.out j h
                · obtain rfl : j = p + 1 := by omega
                  exact HQ.out⟩
              case measure =>
                show nr - ((p : Int) + 1 + 1).toNat < nr - ((p + 1 : Nat) : Int).toNat
                clear hpw
                omega
            · have hq' : (repOf rs (p + 1)).client ≤ (repOf rs p).client := by simpa [dipR] using hq
              have HQ := Lib.hid hq
              refine region_wd _ (by kernel_rfl) (by kernel_rfl) ?_
              repeat (go_big_quiet_step (fail))
              refine wpQuiet_nil ?_
              rintro _ ⟨i, rfl⟩
              go_wp2_with fail
              go_ret
              exact ⟨by rw [risesR_bad (by rw [LR.out]; exact hlt) HQ.out]; simp, HB2.out.trans ((hbel.trans (i.be.mono hs)).mono HB2.out.size)⟩

        · obtain rfl : m = nr := by omega
          go_wp2_with fail
          go_ret
          exact ⟨by rw [HSP.out, risesR, decide_eq_true (by rw [LR.out]; exact HF.out)]; rfl, HB2.out.trans (hbel.mono HB2.out.size)⟩
end Go.Proofs.YtchnnplcpidkiaaDoor
