/-
  The contracts of strings.HasPrefix and of the small tests of a registry's members.
-/
import Derived.Test.YtchnnplcpidkiaaDoorBsM
import Derived.Test.YtchnnplcpidkiaaDoorQui
namespace Go.Proofs.YtchnnplcpidkiaaDoor
open Go.RowKit

def hasPre (s p : ByteArray) : Bool := decide (p.size ≤ s.size) && ((s.extract 0 p.size).toList == p.toList)

theorem pre0_any (s p : ByteArray) (w : World) :
    Calls Tryd.prog 65 #[.string s, .string p] w fun e w' => e = .returned (.bool (hasPre s p)) ∧ Below w.heap.size w w' := by
  go_enter Tryd.func65, Tryd.ntmps65
  by_cases h : p.size ≤ s.size
  · go_wp2_with fail
    go_ret
    exact ⟨by simp [hasPre, h], Below.refl _ _⟩
  · go_wp2_with fail
    go_ret
    exact ⟨by simp [hasPre, h], Below.refl _ _⟩
theorem pre_any (s p : ByteArray) (w : World) :
    Calls Tryd.prog 49 #[.string s, .string p] w fun e w' => e = .returned (.bool (hasPre s p)) ∧ Below w.heap.size w w' := by
  go_enter Tryd.func49, Tryd.ntmps49
  go_wp2_with fail
  refine (pre0_any s p _).mono ?_
  rintro e w1 ⟨rfl, hb⟩
  go_wp2_with fail
  go_ret
  exact ⟨rfl, hb⟩

def rightM (m : Mb) : Bool := decide (1 ≤ m.id ∧ m.id ≤ 63 ∧ 0 ≤ m.height ∧ m.height ≤ 6)

theorem right_any (m : Mb) (w : World) :
    Calls Tryd.prog 68 #[.agg m.arr] w fun e w' => e = .returned (.bool (rightM m)) ∧ Below w.heap.size w w' := by
  go_enter Tryd.func68, Tryd.ntmps68
  by_cases h1 : 1 ≤ m.id
  · by_cases h2 : m.id ≤ 63
    · by_cases h3 : 0 ≤ m.height
      · go_wp2_with fail
        go_ret
        exact ⟨by simp [rightM, h1, h2] <;> omega, (Below.refl _ _).alloc (Nat.le_refl _) _⟩
      · go_wp2_with fail
        go_ret
        exact ⟨by simp [rightM, h1, h2] <;> omega, (Below.refl _ _).alloc (Nat.le_refl _) _⟩
    · go_wp2_with fail
      go_ret
      exact ⟨by simp [rightM] <;> omega, (Below.refl _ _).alloc (Nat.le_refl _) _⟩
  · go_wp2_with fail
    go_ret
    exact ⟨by simp [rightM] <;> omega, (Below.refl _ _).alloc (Nat.le_refl _) _⟩

set_option maxHeartbeats 400000 in
theorem find_any (T : TypeId → Prop) (A : Option Addr) (ms : List Mb) (c : Nat) (ep key : Int) (w : World) (hr : Row w T 34 A (ms.map Mb.cells)) (hn : ms.length ≤ 1000000) :
    Calls Tryd.prog 69 #[.agg #[.int .i64 ep, .slice A ms.length c], .int .i64 key] w fun e w' => e = .returned (.tuple #[.int .i64 (findM ms key), .bool (hasM ms key)]) ∧ Below w.heap.size w w' := by
  have HR := Lib.hid hr
  clear hr
  go_enter Tryd.func69, Tryd.ntmps69
  go_wp2_with (go_at_call 79; refine (bsM_any T _ _ _ _ _ (HR.out.below ((Below.refl _ _).alloc (Nat.le_refl _) _)) hn).mono ?_; rintro e w1 ⟨rfl, hb1⟩)
  go_ret2
  exact ⟨rfl, ((Below.refl _ _).alloc (Nat.le_refl _) _).trans (hb1.mono (by simp))⟩

section
variable {P : Program} {ops : Array Oper} {rest : List Oper} {op : Oper} {a : Act} {w : World} {Q : Exit → Act → World → Prop}
/-- A store of a whole struct over the block that was made last. -/
theorem storeNew (hw : Region.wanted op (yielded ops a.tmps) = true) (ty : TypeId) (x y : Operand) (ho : op.op = .store ty x y)
    (hx : a.eval x = .pointer (some ⟨w.heap.size, 0, none⟩)) (cells : Array Value) (hy : a.eval y = .agg cells)
    (t : TypeId) (old : Array Value) (n : Nat) (hn : cells.size = n) (hi : (P.info? ty).map (·.size) = some n)
    (hold : old.size = n) (h1 : ∀ v ∈ cells.toList, v.oneCell' = true)
    (h : wpList P ops Q rest (a.put op.dst undef) (w.alloc (.cells cells t))) : wpList P ops Q (op :: rest) a (w.alloc (.cells old t)) :=
  storeRow hw ty x y ho w.heap.size hx cells hy t old n (heap_alloc_last _ _) hn hi hold h1 (by rw [World.setRow_alloc_new]; exact h)
end
theorem newRange (w : World) (cs : List Value) (t : TypeId) : (w.alloc (.cells cs.toArray t)).rangeAt w.heap.size 0 cs := fun j v hv => by
  rw [cell_of_row _ w.heap.size _ _ t _ (heap_alloc_last _ _)]
  simpa using hv
theorem newRangeM (w : World) (m : Mb) (t : TypeId) : (w.alloc (.cells m.arr t)).rangeAt w.heap.size 0 m.cells := newRange w m.cells t
theorem Mb.ones (m : Mb) : ∀ v ∈ m.arr.toList, v.oneCell' = true := fun v hv => by
  simp only [Mb.arrL, Mb.cells, List.mem_cons, List.mem_append, List.mem_map, List.not_mem_nil, or_false] at hv
  rcases hv with rfl | ⟨x, _, rfl⟩ | rfl <;> rfl

theorem find_n (T : TypeId → Prop) (A : Option Addr) (n : Nat) (ms : List Mb) (c : Nat) (ep key : Int) (w : World) (hl : ms.length = n) (hr : Row w T 34 A (ms.map Mb.cells)) (hn : ms.length ≤ 1000000) :
    Calls Tryd.prog 69 #[.agg #[.int .i64 ep, .slice A n c], .int .i64 key] w fun e w' => e = .returned (.tuple #[.int .i64 (findM ms key), .bool (hasM ms key)]) ∧ Below w.heap.size w w' := by
  subst hl
  exact find_any T A ms c ep key w hr hn
theorem findM_lt {ms : List Mb} {key : Int} (h : hasM ms key = true) : findM ms key < ms.length := by
  simp only [hasM, Bool.and_eq_true, decide_eq_true_eq] at h
  exact h.1

/-- The test of the member at place i. -/
def badAt (ms : List Mb) (i : Nat) : Bool := !rightM (mbOf ms i) || (decide (0 < i) && decide ((mbOf ms i).id ≤ (mbOf ms (i - 1)).id))
def goodM (ep : Int) (ms : List Mb) : Bool := decide (0 ≤ ep) && decide (ep ≤ 1073741824) && decide (0 < ms.length) && decide (ms.length ≤ 10) && decide (∀ i, i < ms.length → badAt ms i = false)

theorem goodM_bad {ep : Int} {ms : List Mb} {k : Nat} (hk : k < ms.length) (h : badAt ms k = true) : goodM ep ms = false := by
  rw [goodM, decide_eq_false (p := ∀ i, i < ms.length → badAt ms i = false) (fun hall => by rw [hall k hk] at h; cases h), Bool.and_false]
theorem goodM_all {ep : Int} {ms : List Mb} (h1 : 0 ≤ ep) (h2 : ep ≤ 1073741824) (h3 : 0 < ms.length) (h4 : ms.length ≤ 10) (h : ∀ i, i < ms.length → badAt ms i = false) : goodM ep ms = true := by
  rw [goodM, decide_eq_true h1, decide_eq_true h2, decide_eq_true h3, decide_eq_true h4, decide_eq_true h]
  rfl
theorem badAt_wrong {ms : List Mb} {k : Nat} (h : rightM (mbOf ms k) = false) : badAt ms k = true := by rw [badAt, h]; rfl
theorem badAt_zero {ms : List Mb} (h : rightM (mbOf ms 0) = true) : badAt ms 0 = false := by rw [badAt, h]; rfl
theorem badAt_succ {ms : List Mb} {p : Nat} (h : rightM (mbOf ms (p + 1)) = true) : badAt ms (p + 1) = decide ((mbOf ms (p + 1)).id ≤ (mbOf ms p).id) := by rw [badAt, h]; simp

set_option maxHeartbeats 800000 in
set_option maxRecDepth 100000 in
theorem good_any (T : TypeId → Prop) (A : Option Addr) (n : Nat) (ms : List Mb) (c : Nat) (ep : Int) (w : World) (hn : ms.length = n) (hr : Row w T 34 A (ms.map Mb.cells)) :
    Calls Tryd.prog 67 #[.agg #[.int .i64 ep, .slice A n c]] w fun e w' => e = .returned (.bool (goodM ep ms)) ∧ Below w.heap.size w w' := by
  have HR := Lib.hid hr
  have HN := Lib.hid hn
  clear hr hn
  by_cases h1 : 0 ≤ ep
  · by_cases h2 : ep ≤ 1073741824
    · by_cases h3 : 0 < n
      · by_cases h4 : n ≤ 10
        · have h5 : ¬ n = 0 := by omega
          have h6 : ¬ (n : Int) = 0 := by omega
          have h7 : (n : Int) ≤ 10 := by omega
          go_enter Tryd.func67, Tryd.ntmps67
          go_wp2_with fail
          · rename_i hc
            exfalso
            simp at hc
            omega
          rename_i hcc _ _
          clear hcc
          obtain ⟨w1, hw1⟩ : ∃ w1, w1 = w.alloc (.cells #[.int .i64 ep, .slice A n c] 26) := ⟨_, rfl⟩
          have hB0 := Lib.hid (show Below w.heap.size w w1 by rw [hw1]; exact (Below.refl _ _).alloc (Nat.le_refl _) _)
          have hc1 : w1.cell? ⟨w.heap.size, 1, none⟩ = some (.slice A n c) := by rw [hw1, cell_of_row _ _ _ _ _ _ (heap_alloc_last _ _)]; rfl
          have hz1 : w.heap.size < w1.heap.size := by rw [hw1, World.size_alloc]; omega
          have HR1 := Lib.hid (HR.out.below hB0.out)
          rw [← hw1]
          have G1 := Lib.hid h1
          have G2 := Lib.hid h2
          have G3 := Lib.hid h3
          have G4 := Lib.hid h4
          clear hw1 HR h1 h2 h3 h4 h5 h6 h7
          go_loopw [28] (fun i wr => ∃ k : Nat, k ≤ n ∧ i = .int .i64 k ∧ Below w1.heap.size w1 wr ∧ Hid (∀ i, i < k → badAt ms i = false))
            (fun i _ => n - (intOf i).toNat)
          case atStart => exact ⟨0, Nat.zero_le _, rfl, Below.refl _ _, fun i hi => absurd hi (Nat.not_lt_zero _)⟩
          case round =>
            obtain ⟨k, hk, rfl, hbel, HF⟩ := hrel
            have hs := hbel.size
            by_cases hlt : k < n
            · obtain ⟨blk, off, hA, hblk, hc0⟩ := HR1.out.range (mb_at (by rw [HN.out]; exact hlt))
              subst hA
              have HC := Lib.hid (range_below hc0 hbel hblk)
              clear hc0
              go_wp2_with (first | (with_reducible refine loadM rfl 84 _ rfl blk _ rfl 34 _ (Mb.len _) _ HC.out Tryd.underlying84 rfl size84 (mbOf ms _).arr rfl ?_) | (with_reducible refine storeNew rfl 84 _ _ rfl rfl (mbOf ms _).arr rfl 84 _ 34 (Mb.arrSize _) size84 rfl (Mb.ones _) ?_))
              have hb2 : Below w1.heap.size w1 (wr.alloc (.cells (mbOf ms k).arr 84)) := hbel.alloc hs _
              have hne : w.heap.size < (wr.alloc (.cells (mbOf ms k).arr 84)).heap.size := by rw [World.size_alloc]; omega
              have hne2 : wr.heap.size < (wr.alloc (.cells (mbOf ms k).arr 84)).heap.size := by rw [World.size_alloc]; omega
              have q1 := Wd.cell (w := wr.alloc (.cells (mbOf ms k).arr 84)) (p := ⟨w.heap.size, 1, none⟩) (v := .slice (some ⟨blk, off, none⟩) n c) ((hb2.cell hz1).trans hc1) hne
              have q2 := Wd.range (newRangeM wr (mbOf ms k) 84) hne2
              have q3 := Wd.cell (w := wr.alloc (.cells (mbOf ms k).arr 84)) (p := ⟨wr.heap.size, 0, none⟩) (v := .int .i64 (mbOf ms k).id) (by rw [cell_of_row _ _ _ _ _ _ (heap_alloc_last _ _)]; rfl) hne2
              simp only [Act.put]
              by_cases hk0 : k = 0
              · subst hk0
                refine region_wd (wr.alloc (.cells (mbOf ms 0).arr 84)) (by kernel_rfl) (by kernel_rfl) ?_
                go_big_quiet_want
                refine quiet_loadM 84 _ rfl wr.heap.size 0 rfl 34 _ (Mb.len _) _ q2 Tryd.underlying84 rfl size84 (mbOf ms 0).arr rfl ?_
                go_big_quiet_on
                simp only [Act.put, List.setIfInBounds_toArray, List.set_cons_zero, List.set_cons_succ]
                cases hrt : rightM (mbOf ms 0)
                · have hrt := Lib.hid hrt
                  repeat (go_big_quiet_step (exact Wd.call _ (by have := right_any (mbOf ms 0); rw [hrt.out] at this; exact this _)))
                  refine wpQuiet_nil ?_
                  rintro _ ⟨i, rfl⟩
                  go_wp2_with fail
                  go_ret
                  refine ⟨?_, ?_⟩
                  · rw [goodM_bad (by rw [HN.out]; exact hlt) (badAt_wrong hrt.out)]; rfl
                  · exact (hB0.out.trans (hb2.mono (Nat.le_of_lt hz1))).trans (i.be.mono (Nat.le_of_lt hne))
                · have hrt := Lib.hid hrt
                  repeat (go_big_quiet_step (exact Wd.call _ (by have := right_any (mbOf ms 0); rw [hrt.out] at this; exact this _)))
                  refine wpQuiet_nil ?_
                  rintro _ ⟨i, rfl⟩
                  go_wp2_with fail
                  go_roundw
                  case rel => exact ⟨1, by omega, by go_num, hb2.trans (i.be.mono (by rw [World.size_alloc]; omega)), fun j hj => by
                    obtain rfl : j = 0 := by omega
                    exact badAt_zero hrt.out⟩
                  case measure => simp [intOf]; omega
              · obtain ⟨p, rfl⟩ : ∃ p, k = p + 1 := ⟨k - 1, by omega⟩
                obtain ⟨blk', off', hA', hblk', hc0'⟩ := HR1.out.range (mb_at (k := p) (by rw [HN.out]; omega))
                obtain ⟨rfl, rfl⟩ : blk = blk' ∧ off = off' := by simpa using hA'
                have q4 := Wd.cell (w := wr.alloc (.cells (mbOf ms (p + 1)).arr 84)) (p := ⟨blk, off + p * 34, none⟩) (v := .int .i64 (mbOf ms p).id) ((hb2.cell hblk).trans (hc0' 0 _ rfl)) (by rw [World.size_alloc]; show blk < _; omega)
                have hpw : wrap64 (p : Int) = p := by have := G4.out; simp only [wrap64]; omega
                have hpw2 : wrap64 ((p : Int) + 1 + 1) = (p : Int) + 2 := by have := G4.out; simp only [wrap64]; omega
                have hpn : p < n := by omega
                have hpi : (p : Int) < n := by omega
                refine region_wd (wr.alloc (.cells (mbOf ms (p + 1)).arr 84)) (by kernel_rfl) (by kernel_rfl) ?_
                go_big_quiet_want
                refine quiet_loadM 84 _ rfl wr.heap.size 0 rfl 34 _ (Mb.len _) _ q2 Tryd.underlying84 rfl size84 (mbOf ms (p + 1)).arr rfl ?_
                go_big_quiet_on
                simp only [Act.put, List.setIfInBounds_toArray, List.set_cons_zero, List.set_cons_succ]
                cases hrt : rightM (mbOf ms (p + 1))
                · have hrt := Lib.hid hrt
                  repeat (go_big_quiet_step (exact Wd.call _ (by have := right_any (mbOf ms (p + 1)); rw [hrt.out] at this; exact this _)))
                  refine wpQuiet_nil ?_
                  rintro _ ⟨i, rfl⟩
                  go_wp2_with fail
                  go_ret
                  refine ⟨?_, ?_⟩
                  · rw [goodM_bad (by rw [HN.out]; exact hlt) (badAt_wrong hrt.out)]; rfl
                  · exact (hB0.out.trans (hb2.mono (Nat.le_of_lt hz1))).trans (i.be.mono (Nat.le_of_lt hne))
                · have hrt := Lib.hid hrt
                  repeat (go_big_quiet_step (exact Wd.call _ (by have := right_any (mbOf ms (p + 1)); rw [hrt.out] at this; exact this _)))
                  refine wpQuiet_nil ?_
                  rintro _ ⟨i, rfl⟩
                  go_wp2_with fail
                  · rename_i hc
                    go_ret
                    refine ⟨?_, ?_⟩
                    · rw [goodM_bad (by rw [HN.out]; exact hlt) (by rw [badAt_succ hrt.out]; exact decide_eq_true (by simpa using hc))]; rfl
                    · exact (hB0.out.trans (hb2.mono (Nat.le_of_lt hz1))).trans (i.be.mono (Nat.le_of_lt hne))
                  · rename_i hc
                    go_roundw
                    case rel => exact ⟨p + 2, by omega, by go_num, hb2.trans (i.be.mono (by rw [World.size_alloc]; omega)), fun j hj => by
                      rcases Nat.lt_or_ge j (p + 1) with h | h
                      · exact HF.out j h
                      · obtain rfl : j = p + 1 := by omega
                        rw [badAt_succ hrt.out]
                        exact decide_eq_false (by omega)⟩
                    case measure =>
                      rw [hpw2]
                      clear hpw hpw2 hpi q1 q2 q3 q4 hb2 hbel hne hne2 hs hpn hblk hblk' hz1
                      show n - ((p : Int) + 2).toNat < n - ((p + 1 : Nat) : Int).toNat
                      omega
            · have hkn : k = n := by omega
              subst hkn
              go_wp2_with fail
              go_ret
              exact ⟨by rw [goodM_all G1.out G2.out (by rw [HN.out]; exact G3.out) (by rw [HN.out]; exact G4.out) (by rw [HN.out]; exact HF.out)]; rfl, hB0.out.trans (hbel.mono (Nat.le_of_lt hz1))⟩
        · have h6 : ¬ (n : Int) = 0 := by omega
          have h7 : ¬ (n : Int) ≤ 10 := by omega
          have h8 : ¬ n = 0 := by omega
          go_enter Tryd.func67, Tryd.ntmps67
          go_wp2_with fail
          go_ret
          exact ⟨by simp [goodM, HN.out, h4], (Below.refl _ _).alloc (Nat.le_refl _) _⟩
      · have h6 : n = 0 := by omega
        subst h6
        go_enter Tryd.func67, Tryd.ntmps67
        go_wp2_with fail
        go_ret
        exact ⟨by simp [goodM, HN.out], (Below.refl _ _).alloc (Nat.le_refl _) _⟩
    · go_enter Tryd.func67, Tryd.ntmps67
      go_wp2_with fail
      go_ret
      exact ⟨by rw [goodM, decide_eq_false (by omega : ¬ ep ≤ 1073741824)]; simp, (Below.refl _ _).alloc (Nat.le_refl _) _⟩
  · go_enter Tryd.func67, Tryd.ntmps67
    go_wp2_with fail
    go_ret
    exact ⟨by rw [goodM, decide_eq_false (by omega : ¬ 0 ≤ ep)]; simp, (Below.refl _ _).alloc (Nat.le_refl _) _⟩

end Go.Proofs.YtchnnplcpidkiaaDoor
