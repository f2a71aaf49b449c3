/-
  The contracts of request.short and request.Good.
-/
import Derived.Test.YtchnnplcpidkiaaDoorDoe
namespace Go.Proofs.YtchnnplcpidkiaaDoor
open Go.RowKit

def shortL (vs : List ByteArray) : Bool := decide (∀ k, k < vs.length → (vs.getD k default).size ≤ 1024)
def strOf (vs : List ByteArray) (k : Nat) : ByteArray := vs.getD k default
theorem str_at {vs : List ByteArray} {k : Nat} (hk : k < vs.length) : (vs.map strC)[k]? = some [.string (strOf vs k)] := by
  simp [strOf, List.getD_eq_getElem?_getD, hk, strC]

set_option maxHeartbeats 400000 in
set_option maxRecDepth 100000 in
theorem short_any (T : TypeId → Prop) (A : Option Addr) (n c : Nat) (vs : List ByteArray) (w : World) (hn : vs.length = n) (hr : Row w T 1 A (vs.map strC)) (hb : n ≤ 1000000) :
    Calls Tryd.prog 45 #[.slice A n c] w fun e w' => e = .returned (.bool (shortL vs)) ∧ Below w.heap.size w w' := by
  have HR := Lib.hid hr
  have HN := Lib.hid hn
  clear hr hn
  go_enter Tryd.func45, Tryd.ntmps45
  go_wp2
  go_loopw [7] (fun i wr => ∃ k : Nat, k ≤ n ∧ i = .int .i64 k ∧ wr = w ∧ Hid (∀ j, j < k → (strOf vs j).size ≤ 1024))
    (fun i _ => n - (intOf i).toNat)
  case atStart => exact ⟨0, Nat.zero_le _, rfl, rfl, fun j hj => absurd hj (Nat.not_lt_zero _)⟩
  case round =>
    obtain ⟨k, hk, rfl, rfl, HF⟩ := hrel
    by_cases hlt : k < n
    · obtain ⟨g, off, hA, hg, hc⟩ := HR.out.range (str_at (by rw [HN.out]; exact hlt))
      subst hA
      have c0 := hc 0 _ rfl
      simp only [Nat.mul_one, Nat.add_zero] at c0
      have hki : (k : Int) < n := by omega
      clear hc
      by_cases hsz : (strOf vs k).size ≤ 1024
      · have hszi : ((strOf vs k).size : Int) ≤ 1024 := by omega
        go_wp2_with fail
        go_roundw
        case rel => exact ⟨k + 1, by omega, by go_num, trivial, fun j hj => by
          rcases Nat.lt_or_ge j k with h | h
          · exact HF.out j h
          · obtain rfl : j = k := by omega
            exact hsz⟩
        case measure => simp only [intOf]; omega
      · have hszi : ¬ ((strOf vs k).size : Int) ≤ 1024 := by omega
        go_wp2_with fail
        go_ret
        exact ⟨by rw [shortL, decide_eq_false (fun h => hsz (h k (by rw [HN.out]; exact hlt)))]; rfl, Below.refl _ _⟩
    · obtain rfl : k = n := by omega
      go_wp2_with fail
      go_ret
      exact ⟨by rw [shortL, decide_eq_true (by rw [HN.out]; exact HF.out)]; rfl, Below.refl _ _⟩

def goodQ (q : Req) : Bool := decide (1 ≤ q.client ∧ q.client ≤ 64 ∧ 1 ≤ q.num ∧ q.num ≤ 1099511627776 ∧ 1 ≤ q.kind ∧ q.kind ≤ 7) && shortL [q.key, q.val, q.old]

theorem Req.opRange {w : World} {b : Nat} {q : Req} {t : TypeId} {fz : Nat × Nat} (h : w.heap[b]? = some (.cells q.arr t fz)) : w.rangeAt b 2 q.opC := fun j v hv => by
  rw [cell_of_row w b _ _ t _ h]
  have : q.cells[j + 2]? = some v := by simpa [Req.cells, Req.opC, Chg.cells, nodeC, Req.chg] using hv
  rw [show 2 + j = j + 2 from by omega]
  simpa [Req.arr] using this
theorem Req.opOnes (q : Req) : ∀ v ∈ q.opA.toList, v.oneCell' = true := fun v hv => by
  simp only [Req.opA, Req.opC, Chg.cells, nodeC, List.mem_cons, List.mem_append, List.mem_map, List.not_mem_nil, or_false] at hv
  rcases hv with rfl | rfl | rfl | rfl | rfl | rfl | rfl | ⟨x, _, rfl⟩ | rfl <;> rfl

section
variable {P : Program} {ops : Array Oper} {rest : List Oper} {op : Oper} {a : Act} {w : World} {Q : Exit → Act → World → Prop}
theorem storeNewN (hw : Region.wanted op (yielded ops a.tmps) = true) (ty : TypeId) (x y : Operand) (ho : op.op = .store ty x y)
    (g : Nat) (hx : a.eval x = .pointer (some ⟨g, 0, none⟩)) (hg : g = w.heap.size) (cells : Array Value) (hy : a.eval y = .agg cells)
    (t : TypeId) (old : Array Value) (n : Nat) (hn : cells.size = n) (hi : (P.info? ty).map (·.size) = some n)
    (hold : old.size = n) (h1 : ∀ v ∈ cells.toList, v.oneCell' = true)
    (h : wpList P ops Q rest (a.put op.dst undef) (w.alloc (.cells cells t))) : wpList P ops Q (op :: rest) a (w.alloc (.cells old t)) := by
  subst hg
  exact storeNew hw ty x y ho hx cells hy t old n hn hi hold h1 h
end

set_option maxHeartbeats 1000000 in
set_option maxRecDepth 100000 in
theorem goodQ_any (q : Req) (w : World) :
    Calls Tryd.prog 33 #[.agg q.arr] w fun e w' => e = .returned (.bool (goodQ q)) ∧ Below w.heap.size w w' := by
  have hR := Req.opRange (heap_alloc_last w (.cells q.arr 56))
  have FIN : ∀ b, goodQ q = b → ∀ w', Below w.heap.size w w' → (Ending.returned (.bool b) = Ending.returned (.bool (goodQ q)) ∧ Below w.heap.size w w') := fun b h w' hb => ⟨by rw [h], hb⟩
  have HB1 := Lib.hid (show Below w.heap.size w ((w.alloc (.cells q.arr 56)).alloc (.cells q.opA 54)) from ((Below.refl _ _).alloc (Nat.le_refl _) _).alloc (by rw [World.size_alloc]; omega) _)
  have FINH := Lib.hid FIN
  clear FIN
  by_cases h0 : 1 ≤ q.client
  case neg =>
    go_enter Tryd.func33, Tryd.ntmps33
    go_wp2_with (first
      | (with_reducible refine loadM rfl 54 _ rfl w.heap.size 2 rfl 40 _ (Req.opLen _) _ hR Tryd.underlying54 rfl size54 q.opA rfl ?_)
      | (with_reducible refine storeNewN rfl 54 _ _ rfl (w.heap.size + 1) rfl (by rw [World.size_alloc]) q.opA rfl 54 _ 40 (Req.opSize _) size54 rfl (Req.opOnes _) ?_))
    go_ret
    exact FINH.out _ (by rw [goodQ, decide_eq_false (by omega), Bool.false_and]) _ HB1.out
  by_cases h1 : q.client ≤ 64
  case neg =>
    go_enter Tryd.func33, Tryd.ntmps33
    go_wp2_with (first
      | (with_reducible refine loadM rfl 54 _ rfl w.heap.size 2 rfl 40 _ (Req.opLen _) _ hR Tryd.underlying54 rfl size54 q.opA rfl ?_)
      | (with_reducible refine storeNewN rfl 54 _ _ rfl (w.heap.size + 1) rfl (by rw [World.size_alloc]) q.opA rfl 54 _ 40 (Req.opSize _) size54 rfl (Req.opOnes _) ?_))
    go_ret
    exact FINH.out _ (by rw [goodQ, decide_eq_false (by omega), Bool.false_and]) _ HB1.out
  by_cases h2 : 1 ≤ q.num
  case neg =>
    go_enter Tryd.func33, Tryd.ntmps33
    go_wp2_with (first
      | (with_reducible refine loadM rfl 54 _ rfl w.heap.size 2 rfl 40 _ (Req.opLen _) _ hR Tryd.underlying54 rfl size54 q.opA rfl ?_)
      | (with_reducible refine storeNewN rfl 54 _ _ rfl (w.heap.size + 1) rfl (by rw [World.size_alloc]) q.opA rfl 54 _ 40 (Req.opSize _) size54 rfl (Req.opOnes _) ?_))
    go_ret
    exact FINH.out _ (by rw [goodQ, decide_eq_false (by omega), Bool.false_and]) _ HB1.out
  by_cases h3 : q.num ≤ 1099511627776
  case neg =>
    go_enter Tryd.func33, Tryd.ntmps33
    go_wp2_with (first
      | (with_reducible refine loadM rfl 54 _ rfl w.heap.size 2 rfl 40 _ (Req.opLen _) _ hR Tryd.underlying54 rfl size54 q.opA rfl ?_)
      | (with_reducible refine storeNewN rfl 54 _ _ rfl (w.heap.size + 1) rfl (by rw [World.size_alloc]) q.opA rfl 54 _ 40 (Req.opSize _) size54 rfl (Req.opOnes _) ?_))
    go_ret
    exact FINH.out _ (by rw [goodQ, decide_eq_false (by omega), Bool.false_and]) _ HB1.out
  by_cases h4 : 1 ≤ q.kind
  case neg =>
    go_enter Tryd.func33, Tryd.ntmps33
    go_wp2_with (first
      | (with_reducible refine loadM rfl 54 _ rfl w.heap.size 2 rfl 40 _ (Req.opLen _) _ hR Tryd.underlying54 rfl size54 q.opA rfl ?_)
      | (with_reducible refine storeNewN rfl 54 _ _ rfl (w.heap.size + 1) rfl (by rw [World.size_alloc]) q.opA rfl 54 _ 40 (Req.opSize _) size54 rfl (Req.opOnes _) ?_))
    go_ret
    exact FINH.out _ (by rw [goodQ, decide_eq_false (by omega), Bool.false_and]) _ HB1.out
  by_cases h5 : q.kind ≤ 7
  case neg =>
    go_enter Tryd.func33, Tryd.ntmps33
    go_wp2_with (first
      | (with_reducible refine loadM rfl 54 _ rfl w.heap.size 2 rfl 40 _ (Req.opLen _) _ hR Tryd.underlying54 rfl size54 q.opA rfl ?_)
      | (with_reducible refine storeNewN rfl 54 _ _ rfl (w.heap.size + 1) rfl (by rw [World.size_alloc]) q.opA rfl 54 _ 40 (Req.opSize _) size54 rfl (Req.opOnes _) ?_))
    go_ret
    exact FINH.out _ (by rw [goodQ, decide_eq_false (by omega), Bool.false_and]) _ HB1.out
  have HQ := Lib.hid (show (1 ≤ q.client ∧ q.client ≤ 64 ∧ 1 ≤ q.num ∧ q.num ≤ 1099511627776 ∧ 1 ≤ q.kind ∧ q.kind ≤ 7) from ⟨h0, h1, h2, h3, h4, h5⟩)
  go_enter Tryd.func33, Tryd.ntmps33
  go_wp2_with (first
    | (with_reducible refine loadM rfl 54 _ rfl w.heap.size 2 rfl 40 _ (Req.opLen _) _ hR Tryd.underlying54 rfl size54 q.opA rfl ?_)
    | (with_reducible refine storeNewN rfl 54 _ _ rfl (w.heap.size + 1) rfl (by rw [World.size_alloc]) q.opA rfl 54 _ 40 (Req.opSize _) size54 rfl (Req.opOnes _) ?_))
  have hrow := row_lit ((w.alloc (.cells q.arr 56)).alloc (.cells q.opA 54)) 9 1 [[.string q.key], [.string q.val], [.string q.old]] #[.string q.key, .string q.val, .string q.old] (by intro y hy; simp at hy; rcases hy with rfl | rfl | rfl <;> rfl) rfl
  simp only [World.size_alloc] at hrow
  refine (short_any _ _ 3 _ [q.key, q.val, q.old] _ rfl hrow (by omega)).mono ?_
  rintro e w2 ⟨rfl, hb2⟩
  go_wp2_with fail
  go_ret
  exact FINH.out _ (by rw [goodQ, decide_eq_true HQ.out, Bool.true_and]) _ ((HB1.out.alloc (by simp only [World.size_alloc]; omega) _).trans (hb2.mono (by simp only [World.size_alloc]; omega)))
end Go.Proofs.YtchnnplcpidkiaaDoor
