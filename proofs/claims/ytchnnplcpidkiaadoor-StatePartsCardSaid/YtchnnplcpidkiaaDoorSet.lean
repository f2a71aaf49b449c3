/-
  A cell of an owned element is written over.
-/
import Derived.Test.YtchnnplcpidkiaaDoorCopied
import Derived.Test.YtchnnplcpidkiaaDoorOps
namespace Go.Proofs.YtchnnplcpidkiaaDoor
open Go.RowKit

theorem flatten_set {sz : Nat} : ∀ (E : List (List Value)) (i j : Nat) (v : Value) (x : List Value), (∀ y ∈ E, y.length = sz) → E[i]? = some x → j < sz →
    E.flatten.set (i * sz + j) v = (E.set i (x.set j v)).flatten := by
  intro E
  induction E with
  | nil => intro i j v x _ h _; simp at h
  | cons e E ih =>
    intro i j v x hl hx hj
    have he : e.length = sz := hl e (List.mem_cons_self ..)
    cases i with
    | zero =>
      simp only [List.getElem?_cons_zero, Option.some.injEq] at hx
      subst hx
      simp only [List.flatten_cons, List.set_cons_zero, Nat.zero_mul, Nat.zero_add]
      rw [List.set_append_left _ _ (by omega)]
    | succ i =>
      simp only [List.getElem?_cons_succ] at hx
      simp only [List.flatten_cons, List.set_cons_succ]
      rw [List.set_append_right _ _ (by rw [he, Nat.succ_mul]; omega), he, show (i + 1) * sz + j - sz = i * sz + j from by rw [Nat.succ_mul]; omega, ih i j v x (fun y hy => hl y (List.mem_cons_of_mem _ hy)) hx hj]

theorem Blk.set1 {w : World} {g : Nat} {e : TypeId} {sz : Nat} {E : List (List Value)} (h : Blk w g e sz E) (i j : Nat) (v : Value) (x : List Value) (hx : E[i]? = some x) (hj : j < sz) :
    Blk (w.setCell ⟨g, i * sz + j, none⟩ v) g e sz (E.set i (x.set j v)) := by
  refine ⟨?_, fun y hy => ?_⟩
  · rw [setCell_eq_setRow w g (i * sz + j) _ e (0, 0) v h.at_, setRow_heap w g _ _ e (0, 0) h.at_, ← flatten_set E i j v x h.len hx hj]
    simp
  · rcases List.mem_or_eq_of_mem_set hy with hy | rfl
    · exact h.len y hy
    · rw [List.length_set]; exact h.len x (List.mem_of_getElem? hx)

theorem Own.spot {w : World} {base : Nat} {e : TypeId} {sz : Nat} {A : Option Addr} {n c : Nat} {els : List (List Value)} (h : Own w base e sz (.slice A n c) els) {i : Nat} {x : List Value} (hx : els[i]? = some x) :
    ∃ g cs, A = some ⟨g, 0, none⟩ ∧ w.heap[g]? = some (.cells cs e (0, 0)) ∧ base ≤ g ∧ (∀ o, w.frozen? ⟨g, o, none⟩ = false) ∧ (∀ j u, x[j]? = some u → w.cell? ⟨g, i * sz + j, none⟩ = some u) ∧
      (∀ j v, j < sz → Own (w.setCell ⟨g, i * sz + j, none⟩ v) base e sz (.slice A n c) (els.set i (x.set j v))) := by
  obtain ⟨hn, hb⟩ := h.blk
  rcases hb with ⟨_, h0, _⟩ | ⟨g, E, rfl, hB, hE, hEn, hnc, hbg, hcm⟩
  · rw [h0] at hx; simp at hx
  have hil : i < els.length := (List.getElem?_eq_some_iff.1 hx).1
  have hxE : E[i]? = some x := by
    rw [← hEn, List.getElem?_take] at hx
    split at hx
    · exact hx
    · cases hx
  refine ⟨g, _, rfl, hB.at_, hbg, fun o => by simp [World.frozen?, hB.at_], fun j u hu => ?_, fun j v hj => ?_⟩
  · refine hB.cells i 1 j u ?_
    have : (E.drop i).take 1 = [x] := by
      rw [List.take_one, List.head?_drop, hxE]; rfl
    rw [this]
    simpa using hu
  · refine (hB.set1 i j v x hxE hj).own hbg (by rw [List.length_set]; exact hE) hnc hcm ?_
    rw [List.take_set, hEn]

end Go.Proofs.YtchnnplcpidkiaaDoor
