/-
  The contracts of slices.Clone at the four element types: the same elements in memory of the call's own.
-/
import Derived.Test.YtchnnplcpidkiaaDoorOwn
namespace Go.Proofs.YtchnnplcpidkiaaDoor
open Go.RowKit

def OwnPost (w : World) (e : TypeId) (sz : Nat) (els : List (List Value)) (E : Ending) (w' : World) : Prop := ∃ A c, E = .returned (.slice A els.length c) ∧ els.length ≤ c ∧ Own w' w.heap.size e sz (.slice A els.length c) els ∧ Below w.heap.size w w'

theorem Row.none_nil {w : World} {T : TypeId → Prop} {sz : Nat} {els : List (List Value)} (h : Row w T sz none els) : els = [] := by
  cases els with
  | nil => rfl
  | cons y r =>
    obtain ⟨b, off, hA, _⟩ := h.range (k := 0) (e := y) rfl
    cases hA

set_option maxHeartbeats 400000 in
set_option maxRecDepth 100000 in
theorem cloneP_any (T : TypeId → Prop) (A : Option Addr) (n c : Nat) (els : List (List Value)) (w : World) (hn0 : els.length = n) (hr : Row w T 2 A els) (hl : ∀ y ∈ els, y.length = 2) (h1 : ∀ y ∈ els, ∀ u ∈ y, u.oneCell' = true) (hn : els.length ≤ 1000000) :
    Calls Tryd.prog 46 #[.slice A n c] w (OwnPost w 42 2 els) := by
  subst hn0
  have HR := Lib.hid hr
  have HL := Lib.hid hl
  have H1 := Lib.hid h1
  clear hr hl h1
  cases A with
  | none =>
    have he := Row.none_nil HR.out
    subst he
    have hnil := fun (w : World) => Lib.run_eql_slice_nil (P := Tryd.prog) w 22 42 none 0 c 0 0 Tryd.underlying22
    go_enter Tryd.func46, Tryd.ntmps46
    go_wp2
    go_ret
    exact ⟨none, 0, rfl, Nat.le_refl _, Own.nil _ _ _ _, Below.refl _ _⟩
  | some ad =>
    have hnil := fun (w : World) => Lib.run_eql_slice_nil (P := Tryd.prog) w 22 42 (some ad) els.length c 0 0 Tryd.underlying22
    have hO := Lib.hid (own_lit w w.heap.size 42 2 0 [] #[] (Nat.le_refl _) rfl (Nat.zero_le _) (fun _ h => by cases h) rfl)
    go_enter Tryd.func46, Tryd.ntmps46
    go_wp2_with (at_builtin; refine appendOwn rfl _ _ 22 rfl w.heap.size 42 2 32 el42 _ [] els rfl hO.out (some ad) _ c rfl rfl T (HR.out.below ((Below.refl _ _).alloc (Nat.le_refl _) _)) HL.out H1.out ?a1 ?a2 ?a3 ?_)
    case a1 => simp [maxLen]; omega
    case a2 => simp; omega
    case a3 => simp
    intro v' w' ho hg _
    obtain ⟨A', c', rfl, hlc, _⟩ := ho.row
    go_wp2
    go_ret
    exact ⟨A', c', rfl, hlc, ho, (((Below.refl _ _).alloc (Nat.le_refl _) _)).grown hg (by simp) (fun k hk => by simp [Value.ownBlock] at hk; omega)⟩

set_option maxHeartbeats 400000 in
set_option maxRecDepth 100000 in
theorem cloneS_any (T : TypeId → Prop) (A : Option Addr) (n c : Nat) (els : List (List Value)) (w : World) (hn0 : els.length = n) (hr : Row w T 1 A els) (hl : ∀ y ∈ els, y.length = 1) (h1 : ∀ y ∈ els, ∀ u ∈ y, u.oneCell' = true) (hn : els.length ≤ 1000000) :
    Calls Tryd.prog 30 #[.slice A n c] w (OwnPost w 9 1 els) := by
  subst hn0
  have HR := Lib.hid hr
  have HL := Lib.hid hl
  have H1 := Lib.hid h1
  clear hr hl h1
  cases A with
  | none =>
    have he := Row.none_nil HR.out
    subst he
    have hnil := fun (w : World) => Lib.run_eql_slice_nil (P := Tryd.prog) w 34 9 none 0 c 0 0 Tryd.underlying34
    go_enter Tryd.func30, Tryd.ntmps30
    go_wp2
    go_ret
    exact ⟨none, 0, rfl, Nat.le_refl _, Own.nil _ _ _ _, Below.refl _ _⟩
  | some ad =>
    have hnil := fun (w : World) => Lib.run_eql_slice_nil (P := Tryd.prog) w 34 9 (some ad) els.length c 0 0 Tryd.underlying34
    have hO := Lib.hid (own_lit w w.heap.size 9 1 0 [] #[] (Nat.le_refl _) rfl (Nat.zero_le _) (fun _ h => by cases h) rfl)
    go_enter Tryd.func30, Tryd.ntmps30
    go_wp2_with (at_builtin; refine appendOwn rfl _ _ 34 rfl w.heap.size 9 1 16 el9 _ [] els rfl hO.out (some ad) _ c rfl rfl T (HR.out.below ((Below.refl _ _).alloc (Nat.le_refl _) _)) HL.out H1.out ?a1 ?a2 ?a3 ?_)
    case a1 => simp [maxLen]; omega
    case a2 => simp; omega
    case a3 => simp
    intro v' w' ho hg _
    obtain ⟨A', c', rfl, hlc, _⟩ := ho.row
    go_wp2
    go_ret
    exact ⟨A', c', rfl, hlc, ho, (((Below.refl _ _).alloc (Nat.le_refl _) _)).grown hg (by simp) (fun k hk => by simp [Value.ownBlock] at hk; omega)⟩

set_option maxHeartbeats 400000 in
set_option maxRecDepth 100000 in
theorem cloneM_any (T : TypeId → Prop) (A : Option Addr) (n c : Nat) (els : List (List Value)) (w : World) (hn0 : els.length = n) (hr : Row w T 34 A els) (hl : ∀ y ∈ els, y.length = 34) (h1 : ∀ y ∈ els, ∀ u ∈ y, u.oneCell' = true) (hn : els.length ≤ 1000000) :
    Calls Tryd.prog 31 #[.slice A n c] w (OwnPost w 84 34 els) := by
  subst hn0
  have HR := Lib.hid hr
  have HL := Lib.hid hl
  have H1 := Lib.hid h1
  clear hr hl h1
  cases A with
  | none =>
    have he := Row.none_nil HR.out
    subst he
    have hnil := fun (w : World) => Lib.run_eql_slice_nil (P := Tryd.prog) w 24 84 none 0 c 0 0 Tryd.underlying24
    go_enter Tryd.func31, Tryd.ntmps31
    go_wp2
    go_ret
    exact ⟨none, 0, rfl, Nat.le_refl _, Own.nil _ _ _ _, Below.refl _ _⟩
  | some ad =>
    have hnil := fun (w : World) => Lib.run_eql_slice_nil (P := Tryd.prog) w 24 84 (some ad) els.length c 0 0 Tryd.underlying24
    have hO := Lib.hid (own_lit w w.heap.size 84 34 0 [] #[] (Nat.le_refl _) rfl (Nat.zero_le _) (fun _ h => by cases h) rfl)
    go_enter Tryd.func31, Tryd.ntmps31
    go_wp2_with (at_builtin; refine appendOwn rfl _ _ 24 rfl w.heap.size 84 34 48 el84 _ [] els rfl hO.out (some ad) _ c rfl rfl T (HR.out.below ((Below.refl _ _).alloc (Nat.le_refl _) _)) HL.out H1.out ?a1 ?a2 ?a3 ?_)
    case a1 => simp [maxLen]; omega
    case a2 => simp; omega
    case a3 => simp
    intro v' w' ho hg _
    obtain ⟨A', c', rfl, hlc, _⟩ := ho.row
    go_wp2
    go_ret
    exact ⟨A', c', rfl, hlc, ho, (((Below.refl _ _).alloc (Nat.le_refl _) _)).grown hg (by simp) (fun k hk => by simp [Value.ownBlock] at hk; omega)⟩

end Go.Proofs.YtchnnplcpidkiaaDoor
