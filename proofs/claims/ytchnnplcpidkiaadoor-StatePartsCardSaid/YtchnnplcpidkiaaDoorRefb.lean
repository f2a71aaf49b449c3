/-
  The contracts of the reference's comparisons of answers and configurations.
-/
import Derived.Test.YtchnnplcpidkiaaDoorReq
import Derived.Test.YtchnnplcpidkiaaDoorRefa
import Derived.Test.YtchnnplcpidkiaaDoorEqs
namespace Go.Proofs.YtchnnplcpidkiaaDoor
open Go.RowKit

/-! ### lists of texts -/
def textAt (a b : List ByteArray) (k : Nat) : Bool := (strOf a k).toList == (strOf b k).toList
def textsEq (a b : List ByteArray) : Bool := decide (a.length = b.length) && decide (∀ k, k < a.length → textAt a b k = true)
theorem textsEq_len {a b : List ByteArray} (h : a.length ≠ b.length) : textsEq a b = false := by rw [textsEq, decide_eq_false h, Bool.false_and]
theorem textsEq_bad {a b : List ByteArray} {k : Nat} (hk : k < a.length) (h : textAt a b k = false) : textsEq a b = false := by
  rw [textsEq, decide_eq_false (p := ∀ k, k < a.length → textAt a b k = true) (fun hall => by rw [hall k hk] at h; cases h), Bool.and_false]
theorem textsEq_all {a b : List ByteArray} (hl : a.length = b.length) (h : ∀ k, k < a.length → textAt a b k = true) : textsEq a b = true := by
  rw [textsEq, decide_eq_true hl, decide_eq_true h]; rfl
theorem Row.text {w : World} {T : TypeId → Prop} {A : Option Addr} {vs : List ByteArray} (h : Row w T 1 A (vs.map strC)) {k : Nat} (hk : k < vs.length) :
    ∃ b off, A = some ⟨b, off, none⟩ ∧ b < w.heap.size ∧ w.cell? ⟨b, off + k, none⟩ = some (.string (strOf vs k)) := by
  obtain ⟨b, off, hA, hb, hc⟩ := h.range (str_at hk)
  have c0 := hc 0 _ rfl
  simp only [Nat.mul_one, Nat.add_zero] at c0
  exact ⟨b, off, hA, hb, c0⟩

set_option maxHeartbeats 400000 in
set_option maxRecDepth 100000 in
theorem Texts_any (T T' : TypeId → Prop) (A B : Option Addr) (n c m d : Nat) (a b : List ByteArray) (w : World) (hn : a.length = n) (hm : b.length = m) (ha : Row w T 1 A (a.map strC)) (hb : Row w T' 1 B (b.map strC)) (h1 : n ≤ 1000000) :
    Calls Tryd.prog 32 #[.slice A n c, .slice B m d] w fun e w' => e = .returned (.bool (textsEq a b)) ∧ Below w.heap.size w w' := by
  have HA := Lib.hid ha
  have HB := Lib.hid hb
  have HN := Lib.hid hn
  have HM := Lib.hid hm
  clear ha hb
  by_cases hnm : n = m
  case neg =>
    have hne := Lib.hid (show a.length ≠ b.length from by omega)
    have hni : ¬ (n : Int) = m := by omega
    clear hn hm
    go_enter Tryd.func32, Tryd.ntmps32
    go_wp2_with fail
    go_ret
    exact ⟨by rw [textsEq_len hne.out]; rfl, Below.refl _ _⟩
  subst hnm
  clear hn hm
  go_enter Tryd.func32, Tryd.ntmps32
  go_wp2_with fail
  go_loopw [13] (fun i wr => ∃ k : Nat, k ≤ n ∧ i = .int .i64 k ∧ Below w.heap.size w wr ∧ Hid (∀ j, j < k → textAt a b j = true))
    (fun i _ => n - (intOf i).toNat)
  case atStart => exact ⟨0, Nat.zero_le _, rfl, Below.refl _ _, fun j hj => absurd hj (Nat.not_lt_zero _)⟩
  case round =>
    obtain ⟨k, hk, rfl, hbel, HF⟩ := hrel
    have hs := hbel.size
    by_cases hlt : k < n
    · obtain ⟨g, off, hA, hg, c0⟩ := (HA.out.below hbel).text (k := k) (by rw [HN.out]; exact hlt)
      obtain ⟨g', off', hB, hg', c0'⟩ := (HB.out.below hbel).text (k := k) (by rw [HM.out]; exact hlt)
      subst hA hB
      have hki : (k : Int) < n := by omega
      go_wp2_with fail
      have wd0 := Wd.cell c0 hg
      have wd1 := Wd.cell c0' hg'
      cases hq : textAt a b k
      · have hq' : ((strOf a k).toList == (strOf b k).toList) = false := hq
        have HQ := Lib.hid hq
        refine region_wd _ (by kernel_rfl) (by kernel_rfl) ?_
        repeat (go_big_quiet_step (fail))
        refine wpQuiet_nil ?_
        rintro _ ⟨i, rfl⟩
        go_wp2_with fail
        go_ret
        exact ⟨by rw [textsEq_bad (by rw [HN.out]; exact hlt) HQ.out]; rfl, hbel.trans (i.be.mono hs)⟩
      · have hq' : ((strOf a k).toList == (strOf b k).toList) = true := hq
        have HQ := Lib.hid hq
        refine region_wd _ (by kernel_rfl) (by kernel_rfl) ?_
        repeat (go_big_quiet_step (fail))
        refine wpQuiet_nil ?_
        rintro _ ⟨i, rfl⟩
        go_wp2_with fail
        go_roundw
        case rel => exact ⟨k + 1, by omega, by go_num, hbel.trans (i.be.mono hs), fun j hj => by
          rcases Nat.lt_or_ge j k with h | h
          · exact HF.out j h
          · obtain rfl : j = k := by omega
            exact HQ.out⟩
        case measure => simp only [intOf]; omega
    · obtain rfl : k = n := by omega
      go_wp2_with fail
      go_ret
      exact ⟨by rw [textsEq_all (by rw [HN.out, HM.out]) (by rw [HN.out]; exact HF.out)]; rfl, hbel⟩

/-! ### answers -/
def sameR (r r' : Rp) : Bool := decide (r.client = r'.client) && decide (r.num = r'.num) && decide (r.code = r'.code) && textsEq r.vals r'.vals

def same4 (c1 n1 k1 : Int) (va : List ByteArray) (c2 n2 k2 : Int) (vb : List ByteArray) : Bool := decide (c1 = c2) && decide (n1 = n2) && decide (k1 = k2) && textsEq va vb
set_option maxHeartbeats 400000 in
set_option maxRecDepth 100000 in
theorem SameR0 (T T' : TypeId → Prop) (A B : Option Addr) (n c m d : Nat) (c1 n1 k1 : Int) (va : List ByteArray) (c2 n2 k2 : Int) (vb : List ByteArray) (w : World) (hn : va.length = n) (hm : vb.length = m) (ha : Row w T 1 A (va.map strC)) (hb : Row w T' 1 B (vb.map strC)) (h1 : n ≤ 1000000) :
    Calls Tryd.prog 16 #[.agg #[.int .i64 c1, .int .i64 n1, .int .i64 k1, .slice A n c], .agg #[.int .i64 c2, .int .i64 n2, .int .i64 k2, .slice B m d]] w
      fun e w' => e = .returned (.bool (same4 c1 n1 k1 va c2 n2 k2 vb)) ∧ Below w.heap.size w w' := by
  have HA := Lib.hid ha
  have HB := Lib.hid hb
  clear ha hb
  have HB0 := Lib.hid (show Below w.heap.size w ((w.alloc (.cells #[.int .i64 c1, .int .i64 n1, .int .i64 k1, .slice A n c] 36)).alloc (.cells #[.int .i64 c2, .int .i64 n2, .int .i64 k2, .slice B m d] 36)) from ((Below.refl _ _).alloc (Nat.le_refl _) _).alloc (by rw [World.size_alloc]; omega) _)
  by_cases g1 : c1 = c2
  case neg =>
    go_enter Tryd.func16, Tryd.ntmps16
    go_wp2_with fail
    go_ret
    exact ⟨by simp [same4, g1], HB0.out⟩
  subst g1
  by_cases g2 : n1 = n2
  case neg =>
    go_enter Tryd.func16, Tryd.ntmps16
    go_wp2_with fail
    go_ret
    exact ⟨by simp [same4, g2], HB0.out⟩
  subst g2
  by_cases g3 : k1 = k2
  case neg =>
    go_enter Tryd.func16, Tryd.ntmps16
    go_wp2_with fail
    go_ret
    exact ⟨by simp [same4, g3], HB0.out⟩
  subst g3
  go_enter Tryd.func16, Tryd.ntmps16
  go_wp2_with fail
  refine (Texts_any T T' A B n c m d va vb _ hn hm (HA.out.below (HB0.out.mono (Nat.le_refl _))) (HB.out.below (HB0.out.mono (Nat.le_refl _))) h1).mono ?_
  rintro e w1 ⟨rfl, hb1⟩
  go_wp2_with fail
  go_ret
  exact ⟨by simp [same4], HB0.out.trans (hb1.mono (by simp only [World.size_alloc]; omega))⟩
theorem SameR_any (T T' : TypeId → Prop) (A B : Option Addr) (n c m d : Nat) (r r' : Rp) (w : World) (hn : r.vals.length = n) (hm : r'.vals.length = m) (ha : Row w T 1 A (r.vals.map strC)) (hb : Row w T' 1 B (r'.vals.map strC)) (h1 : n ≤ 1000000) :
    Calls Tryd.prog 16 #[.agg #[.int .i64 r.client, .int .i64 r.num, .int .i64 r.code, .slice A n c], .agg #[.int .i64 r'.client, .int .i64 r'.num, .int .i64 r'.code, .slice B m d]] w
      fun e w' => e = .returned (.bool (sameR r r')) ∧ Below w.heap.size w w' := SameR0 T T' A B n c m d _ _ _ _ _ _ _ _ w hn hm ha hb h1

/-! ### configurations -/
def mbAtEq (ms ms' : List Mb) (k : Nat) : Bool := mbEq (mbOf ms k) (mbOf ms' k)
def sameC (ep : Int) (ms : List Mb) (ep' : Int) (ms' : List Mb) : Bool := decide (ep = ep') && decide (ms.length = ms'.length) && decide (∀ k, k < ms.length → mbAtEq ms ms' k = true)

theorem sameC_bad {ep ep' : Int} {ms ms' : List Mb} {k : Nat} (hk : k < ms.length) (h : mbAtEq ms ms' k = false) : sameC ep ms ep' ms' = false := by
  rw [sameC, decide_eq_false (p := ∀ k, k < ms.length → mbAtEq ms ms' k = true) (fun hall => by rw [hall k hk] at h; cases h), Bool.and_false]
theorem sameC_all {ep ep' : Int} {ms ms' : List Mb} (he : ep = ep') (hl : ms.length = ms'.length) (h : ∀ k, k < ms.length → mbAtEq ms ms' k = true) : sameC ep ms ep' ms' = true := by
  rw [sameC, decide_eq_true he, decide_eq_true hl, decide_eq_true h]; rfl

theorem quiet_neq84 {w0 : World} {K : Act → Prop} {a : Act} {op : Oper} (x y : Operand) (u : TypeId) (ho : op.op = .binOp .neq 84 x y u) (m m' : Mb) (hx : a.eval x = .agg m.arr) (hy : a.eval y = .agg m'.arr)
    (h : K (a.put op.dst (.bool (!mbEq m m')))) : op.quiet Tryd.prog a (fun w' => ∃ i : Wd w0, w' = i.wd) K :=
  ⟨.bool (!mbEq m m'), fun w' ⟨i, hw'⟩ => by
    subst hw'
    unfold Oper.quietAt execOp
    simp only [ho, hx, hy, Sem.run_bind, Sem.run_pure, Result.andThen_ok, run_eqGuard_agg i.wd .neq 84 x y m.arr m'.arr Tryd.eqGuardType84, neq84]
    exact ⟨rfl, rfl⟩, h⟩
set_option maxHeartbeats 800000 in
set_option maxRecDepth 100000 in
theorem SameC_any (T T' : TypeId → Prop) (A B : Option Addr) (n c m d : Nat) (ep ep' : Int) (ms ms' : List Mb) (w : World) (hn : ms.length = n) (hm : ms'.length = m) (ha : Row w T 34 A (ms.map Mb.cells)) (hb : Row w T' 34 B (ms'.map Mb.cells)) (h1 : n ≤ 1000000) :
    Calls Tryd.prog 15 #[.agg #[.int .i64 ep, .slice A n c], .agg #[.int .i64 ep', .slice B m d]] w
      fun e w' => e = .returned (.bool (sameC ep ms ep' ms')) ∧ Below w.heap.size w w' := by
  have HA := Lib.hid ha
  have HB := Lib.hid hb
  have HN := Lib.hid hn
  have HM := Lib.hid hm
  clear ha hb
  have HB0 := Lib.hid (show Below w.heap.size w ((w.alloc (.cells #[.int .i64 ep, .slice A n c] 26)).alloc (.cells #[.int .i64 ep', .slice B m d] 26)) from ((Below.refl _ _).alloc (Nat.le_refl _) _).alloc (by rw [World.size_alloc]; omega) _)
  by_cases g1 : ep = ep'
  case neg =>
    clear hn hm
    go_enter Tryd.func15, Tryd.ntmps15
    go_wp2_with fail
    go_ret
    exact ⟨by simp [sameC, g1], HB0.out⟩
  subst g1
  by_cases g2 : n = m
  case neg =>
    have g2' : ¬ (n : Int) = m := by omega
    have hne := Lib.hid (show ms.length ≠ ms'.length from by omega)
    clear hn hm
    go_enter Tryd.func15, Tryd.ntmps15
    go_wp2_with fail
    go_ret
    exact ⟨by rw [sameC, decide_eq_false hne.out]; simp, HB0.out⟩
  subst g2
  clear hn hm
  have kA := at2_0 w (.cells #[.int .i64 ep, .slice A n c] 26) (.cells #[.int .i64 ep, .slice B n d] 26)
  have kB := at2_1 w (.cells #[.int .i64 ep, .slice A n c] 26) (.cells #[.int .i64 ep, .slice B n d] 26)
  go_enter Tryd.func15, Tryd.ntmps15
  go_wp2_with fail
  obtain ⟨w1, hw1⟩ : ∃ w1, w1 = (w.alloc (.cells #[.int .i64 ep, .slice A n c] 26)).alloc (.cells #[.int .i64 ep, .slice B n d] 26) := ⟨_, rfl⟩
  rw [← hw1] at HB0 kA kB ⊢
  clear hw1
  have KA := Lib.hid kA
  have KB := Lib.hid kB
  clear kA kB
  go_loopw [23] (fun i wr => ∃ k : Nat, k ≤ n ∧ i = .int .i64 k ∧ Below w1.heap.size w1 wr ∧ Hid (∀ j, j < k → mbAtEq ms ms' j = true))
    (fun i _ => n - (intOf i).toNat)
  case atStart => exact ⟨0, Nat.zero_le _, rfl, Below.refl _ _, fun j hj => absurd hj (Nat.not_lt_zero _)⟩
  case round =>
    obtain ⟨k, hk, rfl, hbel, HF⟩ := hrel
    have hs := hbel.size
    have hz1 : w.heap.size + 1 < wr.heap.size := heap_lt (blk_later hbel KB.out)
    have hz0 : w.heap.size < wr.heap.size := by omega
    have cA : wr.cell? ⟨w.heap.size, 1, none⟩ = some (.slice A n c) := by rw [cell_of_row _ _ _ _ _ _ (blk_later hbel KA.out)]; rfl
    have cB : wr.cell? ⟨w.heap.size + 1, 1, none⟩ = some (.slice B n d) := by rw [cell_of_row _ _ _ _ _ _ (blk_later hbel KB.out)]; rfl
    by_cases hlt : k < n
    · obtain ⟨g, off, hA, hg, c0⟩ := (HA.out.below (HB0.out.trans (hbel.mono HB0.out.size))).range (mb_at (k := k) (by rw [HN.out]; exact hlt))
      obtain ⟨g', off', hB, hg', c0'⟩ := (HB.out.below (HB0.out.trans (hbel.mono HB0.out.size))).range (mb_at (k := k) (by rw [HM.out]; exact hlt))
      subst hA hB
      have hki : (k : Int) < n := by omega
      go_wp2_with fail
      have wd0 := Wd.cell cA hz0
      have wd1 := Wd.cell cB hz1
      have wd2 := Wd.range c0 hg
      have wd3 := Wd.range c0' hg'
      cases hq : mbAtEq ms ms' k
      · have hq' : mbEq (mbOf ms k) (mbOf ms' k) = false := hq
        have HQ := Lib.hid hq
        refine region_wd _ (by kernel_rfl) (by kernel_rfl) ?_
        repeat (first
          | (go_big_quiet_step (fail))
          | (go_big_quiet_want; refine quiet_loadM 84 _ rfl g (off + k * 34) rfl 34 _ (Mb.len _) _ wd2 Tryd.underlying84 rfl size84 (mbOf ms k).arr rfl ?_; go_big_quiet_on; simp only [Act.put, List.setIfInBounds_toArray, List.set_cons_zero, List.set_cons_succ])
          | (go_big_quiet_want; refine quiet_loadM 84 _ rfl g' (off' + k * 34) rfl 34 _ (Mb.len _) _ wd3 Tryd.underlying84 rfl size84 (mbOf ms' k).arr rfl ?_; go_big_quiet_on; simp only [Act.put, List.setIfInBounds_toArray, List.set_cons_zero, List.set_cons_succ])
          | (go_big_quiet_want; refine quiet_neq84 _ _ _ rfl (mbOf ms k) (mbOf ms' k) rfl rfl ?_; go_big_quiet_on; simp only [Act.put, List.setIfInBounds_toArray, List.set_cons_zero, List.set_cons_succ, hq', Bool.not_true, Bool.not_false]))
        refine wpQuiet_nil ?_
        rintro _ ⟨i, rfl⟩
        go_wp2_with fail
        go_ret
        exact ⟨by rw [sameC_bad (by rw [HN.out]; exact hlt) HQ.out]; rfl, HB0.out.trans ((hbel.trans (i.be.mono hs)).mono HB0.out.size)⟩
      · have hq' : mbEq (mbOf ms k) (mbOf ms' k) = true := hq
        have HQ := Lib.hid hq
        refine region_wd _ (by kernel_rfl) (by kernel_rfl) ?_
        repeat (first
          | (go_big_quiet_step (fail))
          | (go_big_quiet_want; refine quiet_loadM 84 _ rfl g (off + k * 34) rfl 34 _ (Mb.len _) _ wd2 Tryd.underlying84 rfl size84 (mbOf ms k).arr rfl ?_; go_big_quiet_on; simp only [Act.put, List.setIfInBounds_toArray, List.set_cons_zero, List.set_cons_succ])
          | (go_big_quiet_want; refine quiet_loadM 84 _ rfl g' (off' + k * 34) rfl 34 _ (Mb.len _) _ wd3 Tryd.underlying84 rfl size84 (mbOf ms' k).arr rfl ?_; go_big_quiet_on; simp only [Act.put, List.setIfInBounds_toArray, List.set_cons_zero, List.set_cons_succ])
          | (go_big_quiet_want; refine quiet_neq84 _ _ _ rfl (mbOf ms k) (mbOf ms' k) rfl rfl ?_; go_big_quiet_on; simp only [Act.put, List.setIfInBounds_toArray, List.set_cons_zero, List.set_cons_succ, hq', Bool.not_true, Bool.not_false]))
        refine wpQuiet_nil ?_
        rintro _ ⟨i, rfl⟩
        go_wp2_with fail
        go_roundw
        case rel => exact ⟨k + 1, by omega, by go_num, hbel.trans (i.be.mono hs), fun j hj => by
          rcases Nat.lt_or_ge j k with h | h
          · exact HF.out j h
          · obtain rfl : j = k := by omega
            exact HQ.out⟩
        case measure => simp only [intOf]; omega
    · obtain rfl : k = n := by omega
      go_wp2_with fail
      go_ret
      exact ⟨by rw [sameC_all rfl (by rw [HN.out, HM.out]) (by rw [HN.out]; exact HF.out)]; rfl, HB0.out.trans (hbel.mono HB0.out.size)⟩
end Go.Proofs.YtchnnplcpidkiaaDoor
