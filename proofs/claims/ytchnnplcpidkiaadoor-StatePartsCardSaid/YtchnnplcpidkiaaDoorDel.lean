/-
  The contracts of slices.Delete (one element goes) at pairs and members.
-/
import Derived.Test.YtchnnplcpidkiaaDoorOps
import Derived.StillTailTactics
namespace Go.Proofs.YtchnnplcpidkiaaDoor
open Go.RowKit

def DelPost (w : World) (base : Nat) (e : TypeId) (sz : Nat) (v : Value) (els : List (List Value)) (E : Ending) (w' : World) : Prop :=
  ∃ A c, E = .returned (.slice A els.length c) ∧ els.length ≤ c ∧ Own w' base e sz (.slice A els.length c) els ∧ w.grownBy w' v.ownBlock

theorem spl_take {α : Type} (X : List α) (k : Nat) (ys : List α) (h : k ≤ X.length) : (spl X k ys).take k = X.take k := by
  rw [spl, List.take_append_of_le_length (by rw [List.length_take]; omega), List.take_take, Nat.min_self]
theorem spl_take_end {α : Type} (X : List α) (k : Nat) (ys : List α) (h : k ≤ X.length) : (spl X k ys).take (k + ys.length) = X.take k ++ ys := by
  have e : (X.take k).length = k := by rw [List.length_take]; omega
  rw [spl, List.take_append, e, List.take_of_length_le (by omega), Nat.add_sub_cancel_left, List.take_left]

theorem del_els {E ys zs els : List (List Value)} {i n c : Nat} (hE : E.length = c) (hEn : E.take n = els) (hi : i < n) (hn : n ≤ c) (hy : ys = (E.drop (i + 1)).take (n - (i + 1))) :
    (spl (spl E i ys) (n - 1) zs).take (n - 1) = els.take i ++ els.drop (i + 1) := by
  have hyl : ys.length = n - (i + 1) := by rw [hy, List.length_take, List.length_drop]; omega
  rw [spl_take _ _ _ (by rw [spl_len _ _ _ (by omega)]; omega)]
  have e : n - 1 = i + ys.length := by omega
  rw [e, spl_take_end _ _ _ (by omega), ← hEn, hy, List.take_take, Nat.min_eq_left (by omega), List.drop_take]

theorem grown_rows (w : World) (g : Nat) (a b : Array Value) : w.grownBy ((w.drew.setRow g a).setRow g b) (some g) :=
  ⟨rfl, rfl, rfl, by simp, fun k _ hk => by
    have hk' : k ≠ g := fun e => hk (by rw [e])
    rw [setRow_other _ _ _ _ hk', setRow_other _ _ _ _ hk']
    rfl⟩

set_option maxHeartbeats 400000 in
set_option maxRecDepth 100000 in
theorem delP_any (base : Nat) (A : Option Addr) (n c i : Nat) (j : Int) (els : List (List Value)) (w : World) (ho : Own w base 42 2 (.slice A n c) els) (h1 : ∀ y ∈ els, ∀ u ∈ y, u.oneCell' = true) (hi : i < n) (hj : j = (i : Int) + 1) (hn : n ≤ 1000000) :
    Calls Tryd.prog 48 #[.slice A n c, .int .i64 i, .int .i64 j] w (DelPost w base 42 2 (.slice A n c) (els.take i ++ els.drop (i + 1))) := by
  obtain ⟨hne, hb⟩ := ho.blk
  rcases hb with ⟨rfl, rfl, rfl⟩ | ⟨g, E, rfl, hB, hE, hEn, hnc, hbg, hcm⟩
  · simp at hne; omega
  have HB := Lib.hid hB
  have HE := Lib.hid hE
  have HEN := Lib.hid hEn
  have HNE := Lib.hid hne
  have H1 := Lib.hid h1
  subst hj
  clear hB hE hEn ho hne h1
  have HBd := Lib.hid (show Blk w.drew g 42 2 E from ⟨HB.out.at_, HB.out.len⟩)
  obtain ⟨ys, hys⟩ : ∃ ys, ys = (E.drop (i + 1)).take (n - (i + 1)) := ⟨_, rfl⟩
  have hyl : ys.length = n - (i + 1) := by rw [hys, List.length_take, List.length_drop]; have := HE.out; omega
  have hyc := HBd.out.cells (i + 1) (n - (i + 1))
  rw [← hys] at hyc
  have hysz : ∀ x ∈ ys, x.length = 2 := fun x hx => HB.out.len x (by rw [hys] at hx; exact List.mem_of_mem_drop (List.mem_of_mem_take hx))
  have hyo : ∀ x ∈ ys, ∀ u ∈ x, u.oneCell' = true := fun x hx => H1.out x (by
    rw [hys] at hx
    rw [← HEN.out]
    rw [← List.drop_take] at hx
    exact List.mem_of_mem_drop hx)
  have HYS := Lib.hid hys
  have HYL := Lib.hid hyl
  have HYC := Lib.hid hyc
  have HYZ := Lib.hid hysz
  have HYO := Lib.hid hyo
  clear hys hyl hyc hysz hyo
  have hic : i ≤ c := by omega
  have hic1 : i + 1 ≤ c := by omega
  have hin1 : i + 1 ≤ n := by omega
  have hz1 : (0 : Int) ≤ (i : Int) + 1 := by omega
  have hz2 : (i : Int) + 1 ≤ (n : Int) := by omega
  have hn1 : (n : Int) - 1 ≤ (n : Int) := by omega
  have hB2 : Blk (w.drew.setRow g (spl E i ys).flatten.toArray) g 42 2 (spl E i ys) := HBd.out.store i ys HYZ.out
  have hl2 : (spl E i ys).length = c := by rw [spl_len _ _ _ (by rw [HYL.out, HE.out]; omega)]; exact HE.out
  obtain ⟨zs, z1, z2, z3⟩ := run_clear_blk (P := Tryd.prog) (ty := 0) el42 hB2 (n - 1) (n - (n - 1)) (c - (n - 1)) (by omega) (by omega)
  have HB2 := Lib.hid hB2
  have HL2 := Lib.hid hl2
  have Z1 := Lib.hid z1
  have Z2 := Lib.hid z2
  have Z3 := Lib.hid z3
  clear hB2 hl2 z1 z2 z3
  have hfin : ∃ A c', (Ending.returned (.slice (some ⟨g, 0, none⟩) (n - 1) c) = .returned (.slice A (els.take i ++ els.drop (i + 1)).length c')) ∧ (els.take i ++ els.drop (i + 1)).length ≤ c' ∧
      Own ((w.drew.setRow g (spl E i ys).flatten.toArray).setRow g (spl (spl E i ys) (n - 1) zs).flatten.toArray) base 42 2 (.slice A (els.take i ++ els.drop (i + 1)).length c') (els.take i ++ els.drop (i + 1)) ∧
      w.grownBy ((w.drew.setRow g (spl E i ys).flatten.toArray).setRow g (spl (spl E i ys) (n - 1) zs).flatten.toArray) (some g) := by
    have hB3 := HB2.out.store (n - 1) zs Z2.out
    have hl3 : (spl (spl E i ys) (n - 1) zs).length = c := by rw [spl_len _ _ _ (by rw [Z1.out, HL2.out]; omega)]; exact HL2.out
    have hlen : (els.take i ++ els.drop (i + 1)).length = n - 1 := by have := HNE.out; simp; omega
    exact ⟨some ⟨g, 0, none⟩, c, by rw [hlen], by rw [hlen]; omega, by rw [hlen]; exact hB3.own hbg hl3 (by omega) hcm (del_els HE.out HEN.out hi hnc HYS.out), grown_rows _ _ _ _⟩
  have HFIN := Lib.hid hfin
  clear hfin
  by_cases hcc : c = i + 1
  · subst hcc
    have hz3 : (i : Int) ≤ (i : Int) + 1 := by omega
    have hz4 : (n : Int) ≤ (i : Int) + 1 := by omega
    have hrun := fun (ty : TypeId) => run_append_blk (P := Tryd.prog) (ty := ty) el42 HBd.out i (i + 1) HE.out ys HYZ.out HYO.out ⟨g, 0, none⟩ 0 0 (by rw [HYL.out]; omega) (fun j u hu => by
      have : ys = [] := List.eq_nil_of_length_eq_zero (by rw [HYL.out]; omega)
      rw [this] at hu; simp at hu) (by omega)
    rw [show i + 0 = n - 1 from by omega] at hrun
    have HRUN := Lib.hid hrun
    clear hrun
    go_enter Tryd.func48, Tryd.ntmps48
    go_wp2
    go_still_tail 6, (by kernel_rfl)
    change wpList _ _ _ _ _ w.drew
    refine list_app rfl (.tmp 22) (.tmp 25) 22 22 rfl _ _ rfl rfl _ (HRUN.out _) ?_
    have z3 := Z3.out
    go_wp2
    go_ret
    exact HFIN.out
  · have hrun := fun (ty : TypeId) => run_append_blk (P := Tryd.prog) (ty := ty) el42 HBd.out i c HE.out ys HYZ.out HYO.out ⟨g, (i + 1) * 2, none⟩ (n - (i + 1)) (c - (i + 1)) HYL.out (fun j u hu => by rw [Addr.add_mid]; exact HYC.out j u hu) (by omega)
    rw [show i + (n - (i + 1)) = n - 1 from by omega] at hrun
    have HRUN := Lib.hid hrun
    clear hrun
    go_enter Tryd.func48, Tryd.ntmps48
    go_wp2
    go_still_tail 6, (by kernel_rfl)
    change wpList _ _ _ _ _ w.drew
    refine list_app rfl (.tmp 22) (.tmp 25) 22 22 rfl _ _ rfl rfl _ (HRUN.out _) ?_
    have z3 := Z3.out
    go_wp2
    go_ret
    exact HFIN.out

set_option maxHeartbeats 400000 in
set_option maxRecDepth 100000 in
theorem delM_any (base : Nat) (A : Option Addr) (n c i : Nat) (j : Int) (els : List (List Value)) (w : World) (ho : Own w base 84 34 (.slice A n c) els) (h1 : ∀ y ∈ els, ∀ u ∈ y, u.oneCell' = true) (hi : i < n) (hj : j = (i : Int) + 1) (hn : n ≤ 1000000) :
    Calls Tryd.prog 70 #[.slice A n c, .int .i64 i, .int .i64 j] w (DelPost w base 84 34 (.slice A n c) (els.take i ++ els.drop (i + 1))) := by
  obtain ⟨hne, hb⟩ := ho.blk
  rcases hb with ⟨rfl, rfl, rfl⟩ | ⟨g, E, rfl, hB, hE, hEn, hnc, hbg, hcm⟩
  · simp at hne; omega
  have HB := Lib.hid hB
  have HE := Lib.hid hE
  have HEN := Lib.hid hEn
  have HNE := Lib.hid hne
  have H1 := Lib.hid h1
  subst hj
  clear hB hE hEn ho hne h1
  have HBd := Lib.hid (show Blk w.drew g 84 34 E from ⟨HB.out.at_, HB.out.len⟩)
  obtain ⟨ys, hys⟩ : ∃ ys, ys = (E.drop (i + 1)).take (n - (i + 1)) := ⟨_, rfl⟩
  have hyl : ys.length = n - (i + 1) := by rw [hys, List.length_take, List.length_drop]; have := HE.out; omega
  have hyc := HBd.out.cells (i + 1) (n - (i + 1))
  rw [← hys] at hyc
  have hysz : ∀ x ∈ ys, x.length = 34 := fun x hx => HB.out.len x (by rw [hys] at hx; exact List.mem_of_mem_drop (List.mem_of_mem_take hx))
  have hyo : ∀ x ∈ ys, ∀ u ∈ x, u.oneCell' = true := fun x hx => H1.out x (by
    rw [hys] at hx
    rw [← HEN.out]
    rw [← List.drop_take] at hx
    exact List.mem_of_mem_drop hx)
  have HYS := Lib.hid hys
  have HYL := Lib.hid hyl
  have HYC := Lib.hid hyc
  have HYZ := Lib.hid hysz
  have HYO := Lib.hid hyo
  clear hys hyl hyc hysz hyo
  have hic : i ≤ c := by omega
  have hic1 : i + 1 ≤ c := by omega
  have hin1 : i + 1 ≤ n := by omega
  have hz1 : (0 : Int) ≤ (i : Int) + 1 := by omega
  have hz2 : (i : Int) + 1 ≤ (n : Int) := by omega
  have hn1 : (n : Int) - 1 ≤ (n : Int) := by omega
  have hB2 : Blk (w.drew.setRow g (spl E i ys).flatten.toArray) g 84 34 (spl E i ys) := HBd.out.store i ys HYZ.out
  have hl2 : (spl E i ys).length = c := by rw [spl_len _ _ _ (by rw [HYL.out, HE.out]; omega)]; exact HE.out
  obtain ⟨zs, z1, z2, z3⟩ := run_clear_blk (P := Tryd.prog) (ty := 0) el84 hB2 (n - 1) (n - (n - 1)) (c - (n - 1)) (by omega) (by omega)
  have HB2 := Lib.hid hB2
  have HL2 := Lib.hid hl2
  have Z1 := Lib.hid z1
  have Z2 := Lib.hid z2
  have Z3 := Lib.hid z3
  clear hB2 hl2 z1 z2 z3
  have hfin : ∃ A c', (Ending.returned (.slice (some ⟨g, 0, none⟩) (n - 1) c) = .returned (.slice A (els.take i ++ els.drop (i + 1)).length c')) ∧ (els.take i ++ els.drop (i + 1)).length ≤ c' ∧
      Own ((w.drew.setRow g (spl E i ys).flatten.toArray).setRow g (spl (spl E i ys) (n - 1) zs).flatten.toArray) base 84 34 (.slice A (els.take i ++ els.drop (i + 1)).length c') (els.take i ++ els.drop (i + 1)) ∧
      w.grownBy ((w.drew.setRow g (spl E i ys).flatten.toArray).setRow g (spl (spl E i ys) (n - 1) zs).flatten.toArray) (some g) := by
    have hB3 := HB2.out.store (n - 1) zs Z2.out
    have hl3 : (spl (spl E i ys) (n - 1) zs).length = c := by rw [spl_len _ _ _ (by rw [Z1.out, HL2.out]; omega)]; exact HL2.out
    have hlen : (els.take i ++ els.drop (i + 1)).length = n - 1 := by have := HNE.out; simp; omega
    exact ⟨some ⟨g, 0, none⟩, c, by rw [hlen], by rw [hlen]; omega, by rw [hlen]; exact hB3.own hbg hl3 (by omega) hcm (del_els HE.out HEN.out hi hnc HYS.out), grown_rows _ _ _ _⟩
  have HFIN := Lib.hid hfin
  clear hfin
  by_cases hcc : c = i + 1
  · subst hcc
    have hz3 : (i : Int) ≤ (i : Int) + 1 := by omega
    have hz4 : (n : Int) ≤ (i : Int) + 1 := by omega
    have hrun := fun (ty : TypeId) => run_append_blk (P := Tryd.prog) (ty := ty) el84 HBd.out i (i + 1) HE.out ys HYZ.out HYO.out ⟨g, 0, none⟩ 0 0 (by rw [HYL.out]; omega) (fun j u hu => by
      have : ys = [] := List.eq_nil_of_length_eq_zero (by rw [HYL.out]; omega)
      rw [this] at hu; simp at hu) (by omega)
    rw [show i + 0 = n - 1 from by omega] at hrun
    have HRUN := Lib.hid hrun
    clear hrun
    go_enter Tryd.func70, Tryd.ntmps70
    go_wp2
    go_still_tail 6, (by kernel_rfl)
    change wpList _ _ _ _ _ w.drew
    refine list_app rfl (.tmp 22) (.tmp 25) 24 24 rfl _ _ rfl rfl _ (HRUN.out _) ?_
    have z3 := Z3.out
    go_wp2
    go_ret
    exact HFIN.out
  · have hrun := fun (ty : TypeId) => run_append_blk (P := Tryd.prog) (ty := ty) el84 HBd.out i c HE.out ys HYZ.out HYO.out ⟨g, (i + 1) * 34, none⟩ (n - (i + 1)) (c - (i + 1)) HYL.out (fun j u hu => by rw [Addr.add_mid]; exact HYC.out j u hu) (by omega)
    rw [show i + (n - (i + 1)) = n - 1 from by omega] at hrun
    have HRUN := Lib.hid hrun
    clear hrun
    go_enter Tryd.func70, Tryd.ntmps70
    go_wp2
    go_still_tail 6, (by kernel_rfl)
    change wpList _ _ _ _ _ w.drew
    refine list_app rfl (.tmp 22) (.tmp 25) 24 24 rfl _ _ rfl rfl _ (HRUN.out _) ?_
    have z3 := Z3.out
    go_wp2
    go_ret
    exact HFIN.out

end Go.Proofs.YtchnnplcpidkiaaDoor
