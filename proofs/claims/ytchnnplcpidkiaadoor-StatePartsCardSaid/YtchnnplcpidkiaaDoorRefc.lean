/-
  The contracts of the reference's comparison of registries, of its test of a registry's order.
-/
import Derived.Test.YtchnnplcpidkiaaDoorRefb
import Derived.Test.YtchnnplcpidkiaaDoorApp
namespace Go.Proofs.YtchnnplcpidkiaaDoor
open Go.RowKit

/-- A registry's rows in memory. -/
structure SV (w : World) (Ap Ar Am : Option Addr) (s : St) : Prop where
  p : Row w (fun _ => True) 2 Ap (s.pairs.map Pr.cells)
  r : Reps w (fun _ => True) (fun _ => True) Ar s.reps
  m : Row w (fun _ => True) 34 Am (s.mbs.map Mb.cells)
theorem SV.below {w w' : World} {Ap Ar Am : Option Addr} {s : St} (h : SV w Ap Ar Am s) (hb : Below w.heap.size w w') : SV w' Ap Ar Am s := ⟨h.p.below hb, h.r.below hb, h.m.below hb⟩
theorem Reps.weaken {w : World} {T Tv T' Tv' : TypeId → Prop} {A : Option Addr} {rs : List Rp} (h : Reps w T Tv A rs) (h1 : ∀ t, T t → T' t) (h2 : ∀ t, Tv t → Tv' t) : Reps w T' Tv' A rs := by
  obtain ⟨els, l, hr, hc⟩ := h
  exact ⟨els, l, hr.weaken h1, fun k e r he hr => by
    obtain ⟨Av, cv, he', hcv, hrow⟩ := hc k e r he hr
    exact ⟨Av, cv, he', hcv, hrow.weaken h2⟩⟩
/-- A registry as a value. -/
@[reducible] def SV.val (Ap : Option Addr) (cp : Nat) (Ar : Option Addr) (cr : Nat) (Am : Option Addr) (cm : Nat) (s : St) : Value :=
  .agg #[.slice Ap s.pairs.length cp, .slice Ar s.reps.length cr, .int .i64 s.epoch, .slice Am s.mbs.length cm]
theorem OwnSt.sv {w : World} {base : Nat} {v : Value} {s : St} (h : OwnSt w base v s) : ∃ Ap cp Ar cr Am cm, v = SV.val Ap cp Ar cr Am cm s ∧ SV w Ap Ar Am s := by
  obtain ⟨Ap, cp, Ar, cr, Am, cm, rfl, c1, c2, c3, o1, o2, o3⟩ := h
  refine ⟨Ap, cp, Ar, cr, Am, cm, rfl, o1.rowOf.weaken fun _ _ => trivial, ?_, o3.rowOf.weaken fun _ _ => trivial⟩
  obtain ⟨A, c, hv, _, hr⟩ := o2.reps
  cases hv
  exact hr.weaken (fun _ _ => trivial) fun _ _ => trivial

def prAtEq (ps ps' : List Pr) (k : Nat) : Bool := prEq (keyOf ps k) (valOf ps k) (keyOf ps' k) (valOf ps' k)
def rpAtEq (rs rs' : List Rp) (k : Nat) : Bool := sameR (repOf rs k) (repOf rs' k)
def sameP (ps ps' : List Pr) : Bool := decide (∀ k, k < ps.length → prAtEq ps ps' k = true)
def sameRs (rs rs' : List Rp) : Bool := decide (∀ k, k < rs.length → rpAtEq rs rs' k = true)
def sameS (s s' : St) : Bool := decide (s.pairs.length = s'.pairs.length) && decide (s.reps.length = s'.reps.length) && sameC s.epoch s.mbs s'.epoch s'.mbs && sameP s.pairs s'.pairs && sameRs s.reps s'.reps
theorem sameP_bad {ps ps' : List Pr} {k : Nat} (hk : k < ps.length) (h : prAtEq ps ps' k = false) : sameP ps ps' = false :=
  decide_eq_false (fun hall => by rw [hall k hk] at h; cases h)
theorem sameRs_bad {ps ps' : List Rp} {k : Nat} (hk : k < ps.length) (h : rpAtEq ps ps' k = false) : sameRs ps ps' = false :=
  decide_eq_false (fun hall => by rw [hall k hk] at h; cases h)

theorem Reps.cells {w : World} {T Tv : TypeId → Prop} {A : Option Addr} {rs : List Rp} (h : Reps w T Tv A rs) {k : Nat} (hk : k < rs.length) :
    ∃ b off Av cv, A = some ⟨b, off, none⟩ ∧ b < w.heap.size ∧ w.rangeAt b (off + k * 4) [.int .i64 (repOf rs k).client, .int .i64 (repOf rs k).num, .int .i64 (repOf rs k).code, .slice Av (repOf rs k).vals.length cv] ∧ Row w Tv 1 Av ((repOf rs k).vals.map strC) := by
  obtain ⟨b, off, Av, cv, hA, hb, c0, c1, c2, c3, _, hr⟩ := h.at hk
  refine ⟨b, off, Av, cv, hA, hb, fun j v hv => ?_, hr⟩
  match j, hv with
  | 0, hv => cases hv; exact c0
  | 1, hv => cases hv; exact c1
  | 2, hv => cases hv; exact c2
  | 3, hv => cases hv; exact c3

theorem quiet_neq42 {w0 : World} {K : Act → Prop} {a : Act} {op : Oper} (x y : Operand) (u : TypeId) (ho : op.op = .binOp .neq 42 x y u) (k v k' v' : ByteArray) (hx : a.eval x = .agg #[.string k, .string v]) (hy : a.eval y = .agg #[.string k', .string v'])
    (h : K (a.put op.dst (.bool (!prEq k v k' v')))) : op.quiet Tryd.prog a (fun w' => ∃ i : Wd w0, w' = i.wd) K :=
  ⟨.bool (!prEq k v k' v'), fun w' ⟨i, hw'⟩ => by
    subst hw'
    unfold Oper.quietAt execOp
    simp only [ho, hx, hy, Sem.run_bind, Sem.run_pure, Result.andThen_ok, run_eqGuard_agg i.wd .neq 42 x y _ _ Tryd.eqGuardType42, neq42]
    exact ⟨rfl, rfl⟩, h⟩

set_option maxHeartbeats 1000000 in
set_option maxRecDepth 100000 in
theorem Same_any (Ap Ar Am Bp Br Bm : Option Addr) (np cp nr cr nm cm mp dp mr dr mm dm : Nat) (ep ep' : Int) (ps ps' : List Pr) (rs rs' : List Rp) (ms ms' : List Mb) (w : World)
    (lp : ps.length = np) (lr : rs.length = nr) (lm : ms.length = nm) (lp' : ps'.length = mp) (lr' : rs'.length = mr) (lm' : ms'.length = mm) (h : SV w Ap Ar Am ⟨ps, rs, ep, ms⟩) (h' : SV w Bp Br Bm ⟨ps', rs', ep', ms'⟩)
    (b1 : np ≤ 1000000) (b2 : nr ≤ 1000000) (b3 : nm ≤ 1000000) (b4 : ∀ k, (repOf rs k).vals.length ≤ 1000000) :
    Calls Tryd.prog 19 #[.agg #[.slice Ap np cp, .slice Ar nr cr, .int .i64 ep, .slice Am nm cm], .agg #[.slice Bp mp dp, .slice Br mr dr, .int .i64 ep', .slice Bm mm dm]] w
      fun e w' => e = .returned (.bool (sameS ⟨ps, rs, ep, ms⟩ ⟨ps', rs', ep', ms'⟩)) ∧ Below w.heap.size w w' := by
  have HA := Lib.hid h
  have HB := Lib.hid h'
  have LP := Lib.hid lp
  have LR := Lib.hid lr
  have LM := Lib.hid lm
  have LP' := Lib.hid lp'
  have LR' := Lib.hid lr'
  have LM' := Lib.hid lm'
  have HB4 := Lib.hid b4
  clear h h' b4
  have HB0 := Lib.hid (show Below w.heap.size w ((w.alloc (.cells #[.slice Ap np cp, .slice Ar nr cr, .int .i64 ep, .slice Am nm cm] 28)).alloc (.cells #[.slice Bp mp dp, .slice Br mr dr, .int .i64 ep', .slice Bm mm dm] 28)) from ((Below.refl _ _).alloc (Nat.le_refl _) _).alloc (by rw [World.size_alloc]; omega) _)
  by_cases g1 : np = mp
  case neg =>
    have g2' : ¬ (np : Int) = mp := by omega
    have hne := Lib.hid (show ps.length ≠ ps'.length from by omega)
    clear lp lr lm lp' lr' lm'
    go_enter Tryd.func19, Tryd.ntmps19
    go_wp2_with fail
    go_ret
    exact ⟨by rw [sameS, decide_eq_false hne.out]; simp, HB0.out⟩
  subst g1
  by_cases g2 : nr = mr
  case neg =>
    have g2' : ¬ (nr : Int) = mr := by omega
    have hne := Lib.hid (show rs.length ≠ rs'.length from by omega)
    clear lp lr lm lp' lr' lm'
    go_enter Tryd.func19, Tryd.ntmps19
    go_wp2_with fail
    go_ret
    exact ⟨by rw [sameS, decide_eq_false (p := rs.length = rs'.length) hne.out]; simp, HB0.out⟩
  subst g2
  clear lp lr lm lp' lr' lm'
  have kA := at2_0 w (.cells #[.slice Ap np cp, .slice Ar nr cr, .int .i64 ep, .slice Am nm cm] 28) (.cells #[.slice Bp np dp, .slice Br nr dr, .int .i64 ep', .slice Bm mm dm] 28)
  have kB := at2_1 w (.cells #[.slice Ap np cp, .slice Ar nr cr, .int .i64 ep, .slice Am nm cm] 28) (.cells #[.slice Bp np dp, .slice Br nr dr, .int .i64 ep', .slice Bm mm dm] 28)
  go_enter Tryd.func19, Tryd.ntmps19
  go_wp2_with fail
  refine (SameC_any _ _ Am Bm nm cm mm dm ep ep' ms ms' _ LM.out LM'.out (HA.out.m.below HB0.out) (HB.out.m.below HB0.out) b3).mono ?_
  rintro e w1 ⟨rfl, hb1⟩
  have HB1 := Lib.hid (HB0.out.trans (hb1.mono (by simp only [World.size_alloc]; omega)))
  have KA := Lib.hid (blk_later hb1 kA)
  have KB := Lib.hid (blk_later hb1 kB)
  clear hb1 kA kB HB0
  have hz1 : w.heap.size + 1 < w1.heap.size := heap_lt KB.out
  have hz0 : w.heap.size < w1.heap.size := by omega
  obtain ⟨a0, a1, a2, a3, a4⟩ := four KA.out
  obtain ⟨c0, c1, c2, c3, c4⟩ := four KB.out
  cases hc : sameC ep ms ep' ms'
  · have HC := Lib.hid hc
    go_wp2_with fail
    go_ret
    exact ⟨by rw [sameS, HC.out]; simp, HB1.out⟩
  have HC := Lib.hid hc
  clear hc
  go_wp2_with fail
  clear a0 a1 a2 a3 a4 c0 c1 c2 c3 c4 hz1 hz0
  go_loopw [34] (fun i wr => ∃ k : Nat, k ≤ np ∧ i = .int .i64 k ∧ Below w1.heap.size w1 wr ∧ Hid (∀ j, j < k → prAtEq ps ps' j = true))
    (fun i _ => np - (intOf i).toNat)
  case atStart => exact ⟨0, Nat.zero_le _, rfl, Below.refl _ _, fun j hj => absurd hj (Nat.not_lt_zero _)⟩
  case round =>
    obtain ⟨k, hk, rfl, hbel, HF⟩ := hrel
    have hs := hbel.size
    have hz1 : w.heap.size + 1 < wr.heap.size := heap_lt (blk_later hbel KB.out)
    have hz0 : w.heap.size < wr.heap.size := by omega
    obtain ⟨a0, a1, a2, a3, a4⟩ := four (blk_later hbel KA.out)
    obtain ⟨c0, c1, c2, c3, c4⟩ := four (blk_later hbel KB.out)
    by_cases hlt : k < np
    · obtain ⟨g, off, hA, hg, q0, q1⟩ := (HA.out.p.below (HB1.out.trans (hbel.mono HB1.out.size))).pair (k := k) (by show k < ps.length; rw [LP.out]; exact hlt)
      obtain ⟨g', off', hB, hg', r0, r1⟩ := (HB.out.p.below (HB1.out.trans (hbel.mono HB1.out.size))).pair (k := k) (by show k < ps'.length; rw [LP'.out]; exact hlt)
      subst hA hB
      have hki : (k : Int) < np := by omega
      go_wp2_with fail
      have wd0 := Wd.cell a0 hz0
      have wd1 := Wd.cell c0 hz1
      have wd2 := Wd.cell q0 hg
      have wd3 := Wd.cell q1 hg
      have wd4 := Wd.cell r0 hg'
      have wd5 := Wd.cell r1 hg'
      cases hq : prAtEq ps ps' k
      · have hq' : prEq (keyOf ps k) (valOf ps k) (keyOf ps' k) (valOf ps' k) = false := hq
        have HQ := Lib.hid hq
        refine region_wd _ (by kernel_rfl) (by kernel_rfl) ?_
        repeat (first
          | (go_big_quiet_step (fail))
          | (go_big_quiet_want; refine quiet_neq42 _ _ _ rfl _ _ _ _ rfl rfl ?_; go_big_quiet_on; simp only [Act.put, List.setIfInBounds_toArray, List.set_cons_zero, List.set_cons_succ, hq', Bool.not_true, Bool.not_false]))
        refine wpQuiet_nil ?_
        rintro _ ⟨i, rfl⟩
        go_wp2_with fail
        go_ret
        exact ⟨by rw [sameS, sameP_bad (by rw [LP.out]; exact hlt) HQ.out]; simp, HB1.out.trans ((hbel.trans (i.be.mono hs)).mono HB1.out.size)⟩
      · have hq' : prEq (keyOf ps k) (valOf ps k) (keyOf ps' k) (valOf ps' k) = true := hq
        have HQ := Lib.hid hq
        refine region_wd _ (by kernel_rfl) (by kernel_rfl) ?_
        repeat (first
          | (go_big_quiet_step (fail))
          | (go_big_quiet_want; refine quiet_neq42 _ _ _ rfl _ _ _ _ rfl rfl ?_; go_big_quiet_on; simp only [Act.put, List.setIfInBounds_toArray, List.set_cons_zero, List.set_cons_succ, hq', Bool.not_true, Bool.not_false]))
        refine wpQuiet_nil ?_
        rintro _ ⟨i, rfl⟩
        go_wp2_with fail
        go_roundw
        case rel => exact ⟨k + 1, by omega, by go_num, hbel.trans (i.be.mono hs), fun j hj => by
          rcases Nat.lt_or_ge j k with h | h
          · exact HF.out j h
          · obtain rfl : j = k := by omega
            exact HQ.out⟩
        case measure => simp only [intOf]; omega
    · obtain rfl : k = np := by omega
      go_wp2_with fail
      have HSP := Lib.hid (show sameP ps ps' = true from decide_eq_true (by rw [LP.out]; exact HF.out))
      have KA2 := Lib.hid (blk_later hbel KA.out)
      have KB2 := Lib.hid (blk_later hbel KB.out)
      have HB2 := Lib.hid (HB1.out.trans (hbel.mono HB1.out.size))
      clear a0 a1 a2 a3 a4 c0 c1 c2 c3 c4 hz1 hz0 hlt hk HF
      obtain ⟨w2, hw2⟩ : ∃ x, x = wr := ⟨_, rfl⟩
      rw [← hw2] at KA2 KB2 HB2 ⊢
      clear hw2 hs hbel
      go_loopw [52] (fun i wr => ∃ k : Nat, k ≤ nr ∧ i = .int .i64 k ∧ Below w2.heap.size w2 wr ∧ Hid (∀ j, j < k → rpAtEq rs rs' j = true))
        (fun i _ => nr - (intOf i).toNat)
      case atStart => exact ⟨0, Nat.zero_le _, rfl, Below.refl _ _, fun j hj => absurd hj (Nat.not_lt_zero _)⟩
      case round =>
        obtain ⟨m, hk, rfl, hbel, HF⟩ := hrel
        have hs := hbel.size
        have hz1 : w.heap.size + 1 < wr.heap.size := heap_lt (blk_later hbel KB2.out)
        have hz0 : w.heap.size < wr.heap.size := by omega
        obtain ⟨a0, a1, a2, a3, a4⟩ := four (blk_later hbel KA2.out)
        obtain ⟨c0, c1, c2, c3, c4⟩ := four (blk_later hbel KB2.out)
        by_cases hlt : m < nr
        · obtain ⟨g, off, Av, cv, hA, hg, q0, qr⟩ := (HA.out.r.below (HB2.out.trans (hbel.mono HB2.out.size))).cells (k := m) (by show m < rs.length; rw [LR.out]; exact hlt)
          obtain ⟨g', off', Bv, dv, hB, hg', r0, rr⟩ := (HB.out.r.below (HB2.out.trans (hbel.mono HB2.out.size))).cells (k := m) (by show m < rs'.length; rw [LR'.out]; exact hlt)
          subst hA hB
          have hki : (m : Int) < nr := by omega
          go_wp2_with fail
          have wd0 := Wd.cell a1 hz0
          have wd1 := Wd.cell c1 hz1
          have wq0 := Wd.cell (p := ⟨g, off + m * 4, none⟩) (q0 0 _ rfl) hg
          have wq1 := Wd.cell (q0 1 _ rfl) hg
          have wq2 := Wd.cell (q0 2 _ rfl) hg
          have wq3 := Wd.cell (q0 3 _ rfl) hg
          have wr0 := Wd.cell (p := ⟨g', off' + m * 4, none⟩) (r0 0 _ rfl) hg'
          have wr1 := Wd.cell (r0 1 _ rfl) hg'
          have wr2 := Wd.cell (r0 2 _ rfl) hg'
          have wr3 := Wd.cell (r0 3 _ rfl) hg'
          have hcall : ∀ i : Wd wr, Calls Tryd.prog 16 #[.agg #[.int .i64 (repOf rs m).client, .int .i64 (repOf rs m).num, .int .i64 (repOf rs m).code, .slice Av (repOf rs m).vals.length cv], .agg #[.int .i64 (repOf rs' m).client, .int .i64 (repOf rs' m).num, .int .i64 (repOf rs' m).code, .slice Bv (repOf rs' m).vals.length dv]] i.wd
              fun e w' => e = .returned (.bool (rpAtEq rs rs' m)) ∧ Below i.wd.heap.size i.wd w' := fun i => SameR_any _ _ Av Bv _ cv _ dv (repOf rs m) (repOf rs' m) i.wd rfl rfl (qr.below i.be) (rr.below i.be) (HB4.out m)
          clear q0 r0
          cases hq : rpAtEq rs rs' m
          · rw [hq] at hcall
            have HQ := Lib.hid hq
            refine region_wd _ (by kernel_rfl) (by kernel_rfl) ?_
            repeat (go_big_quiet_step (exact Wd.call _ (hcall _)))
            refine wpQuiet_nil ?_
            rintro _ ⟨i, rfl⟩
            go_wp2_with fail
            go_ret
            exact ⟨by rw [sameS, sameRs_bad (by rw [LR.out]; exact hlt) HQ.out]; simp, HB2.out.trans ((hbel.trans (i.be.mono hs)).mono HB2.out.size)⟩
          · rw [hq] at hcall
            have HQ := Lib.hid hq
            refine region_wd _ (by kernel_rfl) (by kernel_rfl) ?_
            repeat (go_big_quiet_step (exact Wd.call _ (hcall _)))
            refine wpQuiet_nil ?_
            rintro _ ⟨i, rfl⟩
            go_wp2_with fail
            go_roundw
            case rel => exact ⟨m + 1, by omega, by go_num, hbel.trans (i.be.mono hs), fun j hj => by
              rcases Nat.lt_or_ge j m with h | h
              · exact HF.out j h
              · obtain rfl : j = m := by omega
                exact HQ.out⟩
            case measure => simp only [intOf]; omega
        · obtain rfl : m = nr := by omega
          go_wp2_with fail
          go_ret
          exact ⟨by rw [sameS, decide_eq_true (p := ps.length = ps'.length) (by rw [LP.out, LP'.out]), decide_eq_true (p := rs.length = rs'.length) (by rw [LR.out, LR'.out]), HC.out, HSP.out, sameRs, decide_eq_true (by rw [LR.out]; exact HF.out)]; rfl, HB2.out.trans (hbel.mono HB2.out.size)⟩
end Go.Proofs.YtchnnplcpidkiaaDoor
