/-
  The contract of state.New.
-/
import Derived.Test.YtchnnplcpidkiaaDoorClone
import Derived.Deep.RegionHeld3
namespace Go.Proofs.YtchnnplcpidkiaaDoor
open Go.RowKit

def NewPost (w : World) (ep : Int) (ms : List Mb) (E : Ending) (w' : World) : Prop :=
  ∃ A c, E = .returned (.agg #[.slice none 0 0, .slice none 0 0, .int .i64 ep, .slice A ms.length c]) ∧ ms.length ≤ c ∧ Own w' w.heap.size 84 34 (.slice A ms.length c) (ms.map Mb.cells) ∧ Below w.heap.size w w'

theorem mb_len (ms : List Mb) : ∀ y ∈ ms.map Mb.cells, y.length = 34 := fun y h => by
  obtain ⟨m, _, rfl⟩ := List.mem_map.1 h; exact Mb.len m
theorem mb_one (ms : List Mb) : ∀ y ∈ ms.map Mb.cells, ∀ u ∈ y, u.oneCell' = true := fun y h u hu => by
  obtain ⟨m, _, rfl⟩ := List.mem_map.1 h
  simp only [Mb.cells, List.mem_cons, List.mem_append, List.mem_map, List.not_mem_nil, or_false] at hu
  rcases hu with rfl | ⟨x, _, rfl⟩ | rfl <;> rfl

set_option maxHeartbeats 400000 in
set_option maxRecDepth 100000 in
theorem new_any (T : TypeId → Prop) (A : Option Addr) (n c : Nat) (ep : Int) (ms : List Mb) (w : World) (hn : ms.length = n) (hr : Row w T 34 A (ms.map Mb.cells)) (hb : ms.length ≤ 1000000) :
    Calls Tryd.prog 14 #[.agg #[.int .i64 ep, .slice A n c]] w (NewPost w ep ms) := by
  have HR := Lib.hid hr
  have HN := Lib.hid hn
  clear hr hn
  go_enter Tryd.func14, Tryd.ntmps14
  go_wp2
  go_region_held3 (fun W => W.cell? ⟨w.heap.size, 0, none⟩ = some (.int .i64 ep) ∧ W.cell? ⟨w.heap.size, 1, none⟩ = some (.slice A n c)) (go_keep)
    (first | (go_at_call 31; refine (cloneM_any T _ _ _ (ms.map Mb.cells) _ (by rw [List.length_map]; exact HN.out) (HR.out.below ((((Below.refl _ _).alloc (Nat.le_refl _) _).alloc (by simp) _).drew)) (mb_len ms) (mb_one ms) (by rw [List.length_map]; exact hb)).mono ?_; rintro e w1 ⟨A', c', rfl, hlc, ho, hb1⟩; have k0 : w1.cell? ⟨w.heap.size, 0, none⟩ = some (.int .i64 ep) := cell_later hb1 (by simp); have k1 : w1.cell? ⟨w.heap.size, 1, none⟩ = some (.slice A n c) := cell_later hb1 (by simp); have kB := Lib.hid (blk_later hb1 (g := w.heap.size + 1) (by simp only [heap_alloc_eq, heap_drew_eq, World.size_alloc, if_true]; rfl)); obtain ⟨k2, k3, k4, k5, k6⟩ := four kB.out))
  go_wp2
  rw [store4 kB.out]
  have hg := setRow_heap w1 (w.heap.size + 1) _ #[.slice none 0 0, .slice none 0 0, .int .i64 ep, .slice A' ms.length c'] 28 (0, 0) kB.out
  refine bodyPost_ret (results_cell_row rfl _ _ (w.heap.size + 1) 28 _ (0, 0) _ rfl hg Tryd.underlying28 rfl size28) rfl ?_
  rw [List.length_map] at hlc ho
  have hs := hb1.size
  simp only [World.size_drew, World.size_alloc] at hs
  refine ⟨_, _, rfl, hlc, (Own.lower ho (by simp only [World.size_drew, World.size_alloc]; omega)).keep fun k hk => ?_, ?_⟩
  · exact setRow_other w1 _ k _ (by have := (ho.base_le k hk).1; simp at this; omega)
  · exact below_setRow ((((((Below.refl _ _).alloc (Nat.le_refl _) _).alloc (by simp) _).drew)).trans (hb1.mono (by simp only [World.size_drew, World.size_alloc]; omega))) (by omega) _

end Go.Proofs.YtchnnplcpidkiaaDoor
