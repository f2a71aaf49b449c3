/-
  The contracts of state.Get and of the reference's searches and comparisons.
-/
import Derived.Test.YtchnnplcpidkiaaDoorBsM
import Derived.Test.YtchnnplcpidkiaaDoorQui
namespace Go.Proofs.YtchnnplcpidkiaaDoor
open Go.RowKit

/-! ### the first place at which something holds -/
def firstFrom (p : Nat → Bool) : Nat → Nat → Int
  | 0, _ => -1
  | f + 1, i => if p i then (i : Int) else firstFrom p f (i + 1)
def firstI (p : Nat → Bool) (n : Nat) : Int := firstFrom p n 0
theorem firstFrom_hit (p : Nat → Bool) : ∀ f i k, i ≤ k → k < i + f → (∀ j, i ≤ j → j < k → p j = false) → p k = true → firstFrom p f i = k := by
  intro f
  induction f with
  | zero => intro i k h1 h2; omega
  | succ f ih =>
    intro i k h1 h2 h3 h4
    rw [firstFrom]
    by_cases he : i = k
    · subst he; rw [if_pos h4]
    · rw [if_neg (by rw [h3 i (Nat.le_refl _) (by omega)]; decide)]
      exact ih (i + 1) k (by omega) (by omega) (fun j hj1 hj2 => h3 j (by omega) hj2) h4
theorem firstFrom_none (p : Nat → Bool) : ∀ f i, (∀ j, i ≤ j → j < i + f → p j = false) → firstFrom p f i = -1 := by
  intro f
  induction f with
  | zero => intro i _; rfl
  | succ f ih =>
    intro i h
    rw [firstFrom, if_neg (by rw [h i (Nat.le_refl _) (by omega)]; decide)]
    exact ih (i + 1) fun j h1 h2 => h j (by omega) (by omega)
theorem firstI_hit {p : Nat → Bool} {n k : Nat} (hk : k < n) (h : ∀ j, j < k → p j = false) (hp : p k = true) : firstI p n = k :=
  firstFrom_hit p n 0 k (Nat.zero_le _) (by omega) (fun j _ hj => h j hj) hp
theorem firstI_none {p : Nat → Bool} {n : Nat} (h : ∀ j, j < n → p j = false) : firstI p n = -1 :=
  firstFrom_none p n 0 fun j _ hj => h j (by omega)

def getV (ps : List Pr) (key : ByteArray) : ByteArray := if hasP ps key then valOf ps (findP ps key) else ByteArray.empty
theorem findP_lt {ps : List Pr} {key : ByteArray} (h : hasP ps key = true) : findP ps key < ps.length := by
  simp only [hasP, Bool.and_eq_true, decide_eq_true_eq] at h
  exact h.1

set_option maxHeartbeats 400000 in
theorem Get_any (T : TypeId → Prop) (A : Option Addr) (n : Nat) (ps : List Pr) (c : Nat) (v1 v2 v3 : Value) (key : ByteArray) (w : World) (hl : ps.length = n) (hr : Row w T 2 A (ps.map Pr.cells)) (hn : ps.length ≤ 1000000) :
    Calls Tryd.prog 10 #[.agg #[.slice A n c, v1, v2, v3], .string key] w fun e w' => e = .returned (.tuple #[.string (getV ps key), .bool (hasP ps key)]) ∧ Below w.heap.size w w' := by
  subst hl
  have HR := Lib.hid hr
  clear hr
  go_enter Tryd.func10, Tryd.ntmps10
  go_wp2_with fail
  have hb0 := Lib.hid (show Below w.heap.size w (w.alloc (.cells #[.slice A ps.length c, v1, v2, v3] 28)) from (Below.refl _ _).alloc (Nat.le_refl _) _)
  refine (pair_any T A ps c v1 v2 v3 key _ (HR.out.below hb0.out) hn).mono ?_
  rintro e w1 ⟨rfl, hb1⟩
  have HB := Lib.hid (hb0.out.trans (hb1.mono (by simp)))
  have kS := Lib.hid (blk_later hb1 (heap_alloc_last w _))
  have hz : w.heap.size < w1.heap.size := heap_lt kS.out
  clear hb1 hb0
  obtain ⟨s0, s1, s2, s3, s4⟩ := four kS.out
  cases hh : hasP ps key
  · have hh := Lib.hid hh
    go_wp2_with fail
    go_ret2
    exact ⟨by rw [getV, hh.out]; rfl, HB.out⟩
  · have hlt := findP_lt hh
    obtain ⟨blk, off, hA, hblk, hc0, hc1⟩ := (HR.out.below HB.out).pair hlt
    subst hA
    have hh := Lib.hid hh
    go_wp2_with fail
    go_ret2
    exact ⟨by rw [getV, if_pos hh.out, hh.out]; rfl, HB.out⟩

def placeI (ps : List Pr) (key : ByteArray) : Int := firstI (fun k => (keyOf ps k).toList == key.toList) ps.length
def lastI (rs : List Rp) (client : Int) : Int := firstI (fun k => (repOf rs k).client == client) rs.length

set_option maxHeartbeats 400000 in
theorem Place_any (T : TypeId → Prop) (A : Option Addr) (n : Nat) (ps : List Pr) (c : Nat) (v1 v2 v3 : Value) (key : ByteArray) (w : World) (hl : ps.length = n) (hr : Row w T 2 A (ps.map Pr.cells)) (hn : ps.length ≤ 1000000) :
    Calls Tryd.prog 12 #[.agg #[.slice A n c, v1, v2, v3], .string key] w fun e w' => e = .returned (.int .i64 (placeI ps key)) ∧ Below w.heap.size w w' := by
  subst hl
  have HR := Lib.hid hr
  clear hr
  go_enter Tryd.func12, Tryd.ntmps12
  go_wp2_with fail
  obtain ⟨w1, hw1⟩ : ∃ w1, w1 = w.alloc (.cells #[.slice A ps.length c, v1, v2, v3] 28) := ⟨_, rfl⟩
  have hb0 := Lib.hid (show Below w.heap.size w w1 from by rw [hw1]; exact (Below.refl _ _).alloc (Nat.le_refl _) _)
  rw [← hw1]
  clear hw1
  go_loopw [10] (fun i wr => ∃ k : Nat, k ≤ ps.length ∧ i = .int .i64 k ∧ Below w.heap.size w wr ∧ Hid (∀ j, j < k → ((keyOf ps j).toList == key.toList) = false))
    (fun i _ => ps.length - (intOf i).toNat)
  case atStart => exact ⟨0, Nat.zero_le _, rfl, hb0.out, fun j hj => absurd hj (Nat.not_lt_zero _)⟩
  case round =>
    obtain ⟨k, hk, rfl, hbel, HF⟩ := hrel
    have hs := hbel.size
    by_cases hlt : k < ps.length
    · obtain ⟨blk, off, hA, hblk, hc0, hc1⟩ := (HR.out.below hbel).pair hlt
      subst hA
      have hki : (k : Int) < ps.length := by omega
      cases hq : ((keyOf ps k).toList == key.toList)
      · go_wp2_with fail
        go_roundw
        case rel => exact ⟨k + 1, by omega, by go_num, hbel.alloc hs _, fun j hj => by
          rcases Nat.lt_or_ge j k with h | h
          · exact HF.out j h
          · obtain rfl : j = k := by omega
            exact hq⟩
        case measure => simp only [intOf]; omega
      · go_wp2_with fail
        go_ret
        exact ⟨by rw [placeI, firstI_hit hlt HF.out hq]; rfl, hbel.alloc hs _⟩
    · obtain rfl : k = ps.length := by omega
      go_wp2_with fail
      go_ret
      exact ⟨by rw [placeI, firstI_none HF.out]; rfl, hbel⟩

set_option maxHeartbeats 400000 in
theorem LastI_any (T Tv : TypeId → Prop) (A : Option Addr) (n : Nat) (rs : List Rp) (c : Nat) (v1 v2 v3 : Value) (client : Int) (w : World) (hl : rs.length = n) (hr : Reps w T Tv A rs) (hn : rs.length ≤ 1000000) :
    Calls Tryd.prog 13 #[.agg #[v1, .slice A n c, v2, v3], .int .i64 client] w fun e w' => e = .returned (.int .i64 (lastI rs client)) ∧ Below w.heap.size w w' := by
  subst hl
  have HR := Lib.hid hr
  clear hr
  go_enter Tryd.func13, Tryd.ntmps13
  go_wp2_with fail
  obtain ⟨w1, hw1⟩ : ∃ w1, w1 = w.alloc (.cells #[v1, .slice A rs.length c, v2, v3] 28) := ⟨_, rfl⟩
  have hb0 := Lib.hid (show Below w.heap.size w w1 from by rw [hw1]; exact (Below.refl _ _).alloc (Nat.le_refl _) _)
  rw [← hw1]
  clear hw1
  go_loopw [10] (fun i wr => ∃ k : Nat, k ≤ rs.length ∧ i = .int .i64 k ∧ Below w.heap.size w wr ∧ Hid (∀ j, j < k → ((repOf rs j).client == client) = false))
    (fun i _ => rs.length - (intOf i).toNat)
  case atStart => exact ⟨0, Nat.zero_le _, rfl, hb0.out, fun j hj => absurd hj (Nat.not_lt_zero _)⟩
  case round =>
    obtain ⟨k, hk, rfl, hbel, HF⟩ := hrel
    have hs := hbel.size
    by_cases hlt : k < rs.length
    · obtain ⟨blk, off, Av, cv, hA, hblk, hc0, hc1, hc2, hc3, _, _⟩ := (HR.out.below hbel).at hlt
      subst hA
      have hki : (k : Int) < rs.length := by omega
      by_cases hq : (repOf rs k).client = client
      · go_wp2_with fail
        go_ret
        exact ⟨by rw [lastI, firstI_hit hlt HF.out (by simpa using hq)]; rfl, hbel.alloc hs _⟩
      · go_wp2_with fail
        go_roundw
        case rel => exact ⟨k + 1, by omega, by go_num, hbel.alloc hs _, fun j hj => by
          rcases Nat.lt_or_ge j k with h | h
          · exact HF.out j h
          · obtain rfl : j = k := by omega
            simpa using hq⟩
        case measure => simp only [intOf]; omega
    · obtain rfl : k = rs.length := by omega
      go_wp2_with fail
      go_ret
      exact ⟨by rw [lastI, firstI_none HF.out]; rfl, hbel⟩
end Go.Proofs.YtchnnplcpidkiaaDoor
