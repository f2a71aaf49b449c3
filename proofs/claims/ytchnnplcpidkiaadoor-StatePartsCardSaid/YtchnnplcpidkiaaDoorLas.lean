/-
  The contract of state.Last.
-/
import Derived.Test.YtchnnplcpidkiaaDoorReq
namespace Go.Proofs.YtchnnplcpidkiaaDoor
open Go.RowKit

def lastR (rs : List Rp) (client : Int) : Rp := if hasR rs client then repOf rs (findR rs client) else ⟨0, 0, 0, []⟩

/-- An answer as a value: its texts lie in memory. -/
def RepV (w : World) (base : Nat) (v : Value) (r : Rp) : Prop :=
  ∃ Av cv, v = .agg #[.int .i64 r.client, .int .i64 r.num, .int .i64 r.code, .slice Av r.vals.length cv] ∧ r.vals.length ≤ cv ∧ Own w base 9 1 (.slice Av r.vals.length cv) (r.vals.map strC)
def LastPost (w : World) (r : Rp) (has : Bool) (E : Ending) (w' : World) : Prop :=
  ∃ v, E = .returned (.tuple #[v, .bool has]) ∧ RepV w' w.heap.size v r ∧ Below w.heap.size w w'

theorem findR_lt {rs : List Rp} {key : Int} (h : hasR rs key = true) : findR rs key < rs.length := by
  simp only [hasR, Bool.and_eq_true, decide_eq_true_eq] at h
  exact h.1

set_option maxHeartbeats 400000 in
set_option maxRecDepth 100000 in
theorem Last_any (T Tv : TypeId → Prop) (A : Option Addr) (n : Nat) (rs : List Rp) (c : Nat) (v1 v2 v3 : Value) (client : Int) (w : World) (hn : rs.length = n) (hr : Reps w T Tv A rs) (hb : rs.length ≤ 1000000) (b4 : ∀ k, (repOf rs k).vals.length ≤ 1000000) :
    Calls Tryd.prog 11 #[.agg #[v1, .slice A n c, v2, v3], .int .i64 client] w (LastPost w (lastR rs client) (hasR rs client)) := by
  subst hn
  have HR := Lib.hid hr
  have HB4 := Lib.hid b4
  clear hr b4
  go_enter Tryd.func11, Tryd.ntmps11
  go_wp2_with fail
  have hb0 := Lib.hid (show Below w.heap.size w ((w.alloc (.cells #[v1, .slice A rs.length c, v2, v3] 28)).alloc (.cells #[.int .i64 0, .int .i64 0, .int .i64 0, .slice none 0 0] 36)) from ((Below.refl _ _).alloc (Nat.le_refl _) _).alloc (by simp) _)
  refine (last_any T Tv A rs c v1 v2 v3 client _ (HR.out.below hb0.out) hb).mono ?_
  rintro e w1 ⟨rfl, hb1⟩
  have HB := Lib.hid (hb0.out.trans (hb1.mono (by simp; omega)))
  have kS := Lib.hid (blk_later hb1 (at2_0 _ _ _))
  have kR := Lib.hid (blk_later hb1 (at2_1 _ _ _))
  have hz : w.heap.size + 1 < w1.heap.size := heap_lt kR.out
  have hz0 : w.heap.size < w1.heap.size := by omega
  clear hb1 hb0
  obtain ⟨s0, s1, s2, s3, s4⟩ := four kS.out
  obtain ⟨r0, r1, r2, r3, r4⟩ := four kR.out
  cases hh : hasR rs client
  · have hh := Lib.hid hh
    go_wp2_with fail
    rw [store4 kR.out]
    have hg := setRow_heap w1 (w.heap.size + 1) _ #[.int .i64 0, .int .i64 0, .int .i64 0, .slice none 0 0] 36 (0, 0) kR.out
    refine bodyPost_ret (res_ct rfl _ _ (w.heap.size + 1) 36 _ (0, 0) _ rfl hg Tryd.underlying36 rfl size36) rfl ?_
    rw [lastR, hh.out]
    exact ⟨_, rfl, ⟨none, 0, rfl, Nat.le_refl _, Own.nil _ _ _ _⟩, below_setRow HB.out (by omega) _⟩
  · have hlt := findR_lt hh
    have hh := Lib.hid hh
    obtain ⟨g, off, Av, cv, hA, hgl, e0, e1, e2, e3, hcv, hrow⟩ := (HR.out.below HB.out).at hlt
    subst hA
    have HROW := Lib.hid hrow
    have hvl := HB4.out (findR rs client)
    obtain ⟨rp, hrp⟩ : ∃ rp, rp = repOf rs (findR rs client) := ⟨_, rfl⟩
    rw [← hrp] at e0 e1 e2 e3 hcv HROW hvl
    have HRP := Lib.hid hrp
    clear hrp hrow
    go_wp2_with fail
    have hB2 := Lib.hid (HB.out.alloc (Nat.le_of_lt hz0) (.cells #[.int .i64 rp.client, .int .i64 rp.num, .int .i64 rp.code, .slice Av rp.vals.length cv] 36))
    refine (cloneS_any Tv _ _ _ (rp.vals.map strC) _ (by simp) (HROW.out.below ((Below.refl _ _).alloc (Nat.le_refl _) _)) st_len st_one (by simpa using hvl)).mono ?_
    rintro e w2 ⟨Av2, cv2, rfl, hcv2, ho2, hb2⟩
    rw [List.length_map] at hcv2 ho2
    rw [List.length_map]
    have kE := Lib.hid (blk_later hb2 (at1_0 _ _))
    have kR2 := Lib.hid (blk_later hb2 (at_up kR.out _))
    have hs2 := hb2.size
    simp only [World.size_alloc] at hs2
    have HO2 := Lib.hid (ho2.lower (base' := w.heap.size) (by simp; omega))
    have HB2 := Lib.hid (hB2.out.trans (hb2.mono (by simp; omega)))
    have hz2 : w1.heap.size < w2.heap.size := by omega
    have hz3 : w.heap.size + 1 < w2.heap.size := by omega
    have hne : ¬ w.heap.size + 1 = w1.heap.size := by omega
    have hne' : ¬ w1.heap.size = w.heap.size + 1 := by omega
    clear s0 s1 s2 s3 s4 r0 r1 r2 r3 r4 e0 e1 e2 e3 hb2 ho2 hB2 hs2
    obtain ⟨r0, r1, r2, r3, r4⟩ := four kR2.out
    obtain ⟨e0, e1, e2, e3, e4⟩ := four kE.out
    go_wp2_with fail
    have kR3 := Lib.hid (blk_set_other kR2.out hne 3 (.slice Av2 rp.vals.length cv2))
    rw [store4 kR3.out]
    have hg := setRow_heap (w2.setCell ⟨w1.heap.size, 3, none⟩ (.slice Av2 rp.vals.length cv2)) (w.heap.size + 1) _ #[.int .i64 rp.client, .int .i64 rp.num, .int .i64 rp.code, .slice Av2 rp.vals.length cv2] 36 (0, 0) kR3.out
    refine bodyPost_ret (res_ct rfl _ _ (w.heap.size + 1) 36 _ (0, 0) _ rfl hg Tryd.underlying36 rfl size36) rfl ?_
    rw [lastR, hh.out, if_pos rfl, ← HRP.out]
    exact ⟨_, rfl, ⟨Av2, cv2, rfl, hcv2, (HO2.out.set kE.out (by decide) 3 _).other kR3.out (by decide) fun k hk => setRow_other _ _ _ _ hk⟩,
      below_setRow (HB2.out.setCell (p := ⟨w1.heap.size, 3, none⟩) (Nat.le_of_lt hz0) _) (by omega) _⟩
end Go.Proofs.YtchnnplcpidkiaaDoor
