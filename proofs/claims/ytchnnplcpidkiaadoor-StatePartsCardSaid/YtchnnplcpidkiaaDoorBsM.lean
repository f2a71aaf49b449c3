/-
  The contract of slices.BinarySearchFunc over members, and of config.find.
-/
import Derived.Test.YtchnnplcpidkiaaDoorBs
namespace Go.Proofs.YtchnnplcpidkiaaDoor
open Go.RowKit
instance : Inhabited Mb := ⟨⟨0, Vector.replicate 32 0, 0⟩⟩
def mbOf (ms : List Mb) (h : Nat) : Mb := ms.getD h default
theorem mb_at {ms : List Mb} {k : Nat} (hk : k < ms.length) : (ms.map Mb.cells)[k]? = some (mbOf ms k).cells := by simp [mbOf, List.getD_eq_getElem?_getD, hk]
def ltM (ms : List Mb) (key : Int) (h : Nat) : Bool := decide (wrap64 ((mbOf ms h).id - key) < 0)
def findM (ms : List Mb) (key : Int) : Nat := bs (ltM ms key) ms.length
def hasM (ms : List Mb) (key : Int) : Bool := decide (findM ms key < ms.length) && (wrap64 ((mbOf ms (findM ms key)).id - key) == 0)

set_option maxHeartbeats 400000 in
theorem mbCmp_any (m : Mb) (key : Int) (w : World) :
    Calls Tryd.prog 80 #[.agg m.arr, .int .i64 key] w fun e w' => e = .returned (.int .i64 (wrap64 (m.id - key))) ∧ Below w.heap.size w w' := by
  go_enter Tryd.func80, Tryd.ntmps80
  go_wp2
  go_ret
  exact ⟨rfl, (Below.refl _ _).alloc (Nat.le_refl _) _⟩
set_option maxHeartbeats 400000 in
theorem bsM_any (T : TypeId → Prop) (A : Option Addr) (ms : List Mb) (c : Nat) (key : Int) (w : World) (hr : Row w T 34 A (ms.map Mb.cells)) (hn : ms.length ≤ 1000000) :
    Calls Tryd.prog 79 #[.slice A ms.length c, .int .i64 key, .func (.func 80) #[] #[]] w fun e w' => e = .returned (.tuple #[.int .i64 (findM ms key), .bool (hasM ms key)]) ∧ Below w.heap.size w w' := by
  have HR := Lib.hid hr
  clear hr
  go_enter Tryd.func79, Tryd.ntmps79
  go_wp2
  go_loopw [9, 10, 11] (fun i j h wr => ∃ a b : Nat, a ≤ b ∧ b ≤ ms.length ∧ i = .int .i64 a ∧ j = .int .i64 b ∧ Below w.heap.size w wr ∧ Hid (bsRest (ltM ms key) a b = findM ms key))
    (fun i j _ _ => (intOf j).toNat - (intOf i).toNat)
  case atStart => exact ⟨0, ms.length, Nat.zero_le _, Nat.le_refl _, rfl, rfl, Below.refl _ _, rfl⟩
  case round =>
    obtain ⟨a, b, hab, hb, rfl, rfl, hbel, HF⟩ := hrel
    by_cases hlt : a < b
    · have hm : (a + b) / 2 < ms.length := by omega
      obtain ⟨blk, off, hA, hblk, hc0⟩ := HR.out.range (mb_at hm)
      subst hA
      have hs := hbel.size
      have HC := Lib.hid (range_below hc0 hbel hblk)
      clear hc0
      go_wp2_with (first | (go_at_call 80; refine (mbCmp_any _ _ _).mono ?_; rintro e w1 ⟨rfl, hb1⟩) | (with_reducible refine loadM rfl 84 _ rfl blk _ rfl 34 _ (Mb.len _) _ HC.out Tryd.underlying84 rfl size84 (mbOf ms _).arr rfl ?_))
      · have hc : wrap64 ((mbOf ms ((a + b) / 2)).id - key) < 0 := by assumption
        go_roundw
        case rel => exact ⟨(a + b) / 2 + 1, b, by omega, hb, by go_num, rfl, hbel.trans (hb1.mono hs), by rw [← bsRest_up _ _ _ hlt (decide_eq_true hc)]; exact HF.out⟩
        case measure => simp [intOf]; omega
      · have hc : 0 ≤ wrap64 ((mbOf ms ((a + b) / 2)).id - key) := by assumption
        go_roundw
        case rel => exact ⟨a, (a + b) / 2, by omega, by omega, rfl, by go_num, hbel.trans (hb1.mono hs), by rw [← bsRest_down _ _ _ hlt (decide_eq_false (by omega))]; exact HF.out⟩
        case measure => simp [intOf]; omega
    · have hab' : a = b := by omega
      subst hab'
      have hfin : findM ms key = a := by rw [← HF.out, bsRest_done _ _ _ hlt]
      by_cases hlast : a < ms.length
      · obtain ⟨blk, off, hA, hblk, hc0⟩ := HR.out.range (mb_at hlast)
        subst hA
        have hs := hbel.size
        have HC := Lib.hid (range_below hc0 hbel hblk)
        have HFIN := Lib.hid hfin
        clear hc0 hfin
        go_wp2_with (first | (go_at_call 80; refine (mbCmp_any _ _ _).mono ?_; rintro e w1 ⟨rfl, hb1⟩) | (with_reducible refine loadM rfl 84 _ rfl blk _ rfl 34 _ (Mb.len _) _ HC.out Tryd.underlying84 rfl size84 (mbOf ms _).arr rfl ?_))
        go_ret2
        exact ⟨by simp [HFIN.out, hasM, hlast], hbel.trans (hb1.mono hs)⟩
      · have HFIN := Lib.hid hfin
        clear hfin
        go_wp2_with fail
        go_ret2
        exact ⟨by simp [HFIN.out, hasM, hlast], hbel⟩

end Go.Proofs.YtchnnplcpidkiaaDoor
