/-
  The contracts of the reference's test of a request, of the laws' test of greatness, and of the laws' configuration.
-/
import Derived.Test.YtchnnplcpidkiaaDoorRefe
import Derived.Test.YtchnnplcpidkiaaDoorBnd
namespace Go.Proofs.YtchnnplcpidkiaaDoor
open Go.RowKit

theorem shortL3 (a b c : ByteArray) : shortL [a, b, c] = (decide (a.size ≤ 1024) && (decide (b.size ≤ 1024) && decide (c.size ≤ 1024))) := by
  have : (∀ k, k < [a, b, c].length → ([a, b, c].getD k default).size ≤ 1024) ↔ (a.size ≤ 1024 ∧ b.size ≤ 1024 ∧ c.size ≤ 1024) := by
    constructor
    · intro h
      exact ⟨h 0 (by simp), h 1 (by simp), h 2 (by simp)⟩
    · rintro ⟨h1, h2, h3⟩ k hk
      match k, hk with
      | 0, _ => exact h1
      | 1, _ => exact h2
      | 2, _ => exact h3
  rw [shortL, decide_eq_decide.2 this, Bool.decide_and, Bool.decide_and]

def GoodPost (w : World) (q : Req) (E : Ending) (w' : World) : Prop := E = .returned (.bool (goodQ q)) ∧ Below w.heap.size w w'
set_option maxHeartbeats 1000000 in
set_option maxRecDepth 100000 in
theorem goodRef_any (q : Req) (w : World) : Calls Tryd.prog 17 #[.agg q.arr] w (GoodPost w q) := by
  have HB1 := Lib.hid (show Below w.heap.size w (w.alloc (.cells q.arr 56)) from (Below.refl _ _).alloc (Nat.le_refl _) _)
  have FIN : ∀ b, goodQ q = b → ∀ w', Below w.heap.size w w' → GoodPost w q (Ending.returned (.bool b)) w' := fun b h w' hb => ⟨by rw [h], hb⟩
  have FINH := Lib.hid FIN
  clear FIN
  by_cases h0 : 1 ≤ q.client
  case neg =>
    go_enter Tryd.func17, Tryd.ntmps17
    go_wp2_with fail
    go_ret
    exact FINH.out _ (by rw [goodQ, decide_eq_false (by omega), Bool.false_and]) _ HB1.out
  by_cases h1 : q.client ≤ 64
  case neg =>
    go_enter Tryd.func17, Tryd.ntmps17
    go_wp2_with fail
    go_ret
    exact FINH.out _ (by rw [goodQ, decide_eq_false (by omega), Bool.false_and]) _ HB1.out
  by_cases h2 : 1 ≤ q.num
  case neg =>
    go_enter Tryd.func17, Tryd.ntmps17
    go_wp2_with fail
    go_ret
    exact FINH.out _ (by rw [goodQ, decide_eq_false (by omega), Bool.false_and]) _ HB1.out
  by_cases h3 : q.num ≤ 1099511627776
  case neg =>
    go_enter Tryd.func17, Tryd.ntmps17
    go_wp2_with fail
    go_ret
    exact FINH.out _ (by rw [goodQ, decide_eq_false (by omega), Bool.false_and]) _ HB1.out
  by_cases h4 : 1 ≤ q.kind
  case neg =>
    go_enter Tryd.func17, Tryd.ntmps17
    go_wp2_with fail
    go_ret
    exact FINH.out _ (by rw [goodQ, decide_eq_false (by omega), Bool.false_and]) _ HB1.out
  by_cases h5 : q.kind ≤ 7
  case neg =>
    go_enter Tryd.func17, Tryd.ntmps17
    go_wp2_with fail
    go_ret
    exact FINH.out _ (by rw [goodQ, decide_eq_false (by omega), Bool.false_and]) _ HB1.out
  have HQ := Lib.hid (show goodQ q = (decide (q.key.size ≤ 1024) && (decide (q.val.size ≤ 1024) && decide (q.old.size ≤ 1024))) from by
    rw [goodQ, decide_eq_true ⟨h0, h1, h2, h3, h4, h5⟩, Bool.true_and, shortL3])
  by_cases k1 : q.key.size ≤ 1024
  case neg =>
    have k1' : ¬ (q.key.size : Int) ≤ 1024 := by omega
    go_enter Tryd.func17, Tryd.ntmps17
    go_wp2_with fail
    go_ret
    exact FINH.out _ (by rw [HQ.out, decide_eq_false k1]; rfl) _ HB1.out
  have k1' : (q.key.size : Int) ≤ 1024 := by omega
  by_cases k2 : q.val.size ≤ 1024
  case neg =>
    have k2' : ¬ (q.val.size : Int) ≤ 1024 := by omega
    go_enter Tryd.func17, Tryd.ntmps17
    go_wp2_with fail
    go_ret
    exact FINH.out _ (by rw [HQ.out, decide_eq_true k1, decide_eq_false k2]; rfl) _ HB1.out
  have k2' : (q.val.size : Int) ≤ 1024 := by omega
  by_cases k3 : q.old.size ≤ 1024
  case neg =>
    have k3' : ¬ (q.old.size : Int) ≤ 1024 := by omega
    go_enter Tryd.func17, Tryd.ntmps17
    go_wp2_with fail
    go_ret
    exact FINH.out _ (by rw [HQ.out, decide_eq_true k1, decide_eq_true k2, decide_eq_false k3]; rfl) _ HB1.out
  have k3' : (q.old.size : Int) ≤ 1024 := by omega
  go_enter Tryd.func17, Tryd.ntmps17
  go_wp2_with fail
  go_ret
  exact FINH.out _ (by rw [HQ.out, decide_eq_true k1, decide_eq_true k2, decide_eq_true k3]; rfl) _ HB1.out
end Go.Proofs.YtchnnplcpidkiaaDoor
