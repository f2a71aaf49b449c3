/-
  The contracts of slices.Insert (one element comes) at pairs, replies and members.
-/
import Derived.Test.YtchnnplcpidkiaaDoorDel
import Derived.Lib.Overlaps
import Derived.Lib.AppendZeros
namespace Go.Proofs.YtchnnplcpidkiaaDoor
open Go.RowKit

section
variable {P : Program} {w : World}
/-- append(s[:i], make(S, k)...) where there is no room: a new row, whose first elements are s's. -/
theorem run_append_make {t tn ty e : TypeId} {size bytes : Nat} {kn : IntKind} (hel : El P t e size bytes) (htn : P.underlying tn = some (.int kn)) {g : Nat} {E : List (List Value)} (h : Blk w g e size E) (i c k : Nat) (hc : E.length = c) (hic : i ≤ c) (hk : 0 < k)
    (hg : c < i + k) (hb : (i + k) * bytes ≤ 140737488355328) (h63 : i + k ≤ 2000000) :
    ∃ cap E2, Blk (w.drew.alloc (.cells E2.flatten.toArray e)) w.heap.size e size E2 ∧ E2.length = cap ∧ i + k ≤ cap ∧ cap ≤ maxLen ∧ E2.take i = E.take i ∧
      (Builtin.append_ #[t, tn] ty #[.slice (some ⟨g, 0, none⟩) i c, .int .i64 k]).run P w = .ok (.slice (some ⟨w.heap.size, 0, none⟩) (i + k) cap) (w.drew.alloc (.cells E2.flatten.toArray e)) := by
  obtain ⟨ht, ⟨ti, z, hi, hz, hs, hby, hzs, hz1⟩, hp⟩ := hel
  subst hs
  subst hby
  have hge := grownCap_ge w (i + k) c e
  have hcm : grownCap w (i + k) c e ≤ maxLen := grownCap_le_maxLen w (i + k) c e (by simp only [maxLen]; omega)
  obtain ⟨Z, z1, z2, z3⟩ := chunk (sz := ti.size) (grownCap w (i + k) c e - i) ((Builtin.zeroCells z.cells k).toList ++ (Builtin.zeroCells z.cells (grownCap w (i + k) c e - (i + k))).toList) (by
    rw [List.length_append, Array.length_toList, Array.length_toList, size_zeroCells, size_zeroCells, hzs, ← Nat.add_mul]
    congr 1
    omega)
  have hsz : ∀ x ∈ E.take i ++ Z, x.length = ti.size := fun x hx => by
    rcases List.mem_append.1 hx with hx | hx
    · exact h.len x (List.mem_of_mem_take hx)
    · exact z2 x hx
  have hti : (E.take i).length = i := by rw [List.length_take]; omega
  refine ⟨grownCap w (i + k) c e, E.take i ++ Z, ⟨heap_alloc_new w.drew _, hsz⟩, by rw [List.length_append, hti, z1]; omega, hge, hcm, by rw [List.take_append, hti, Nat.sub_self, List.take_zero, List.append_nil, List.take_take, Nat.min_self], ?_⟩
  have hn : ¬ (i + k ≤ c) := by omega
  have hw' : IntKind.i64.wrap (k : Int) = k := by rw [IntKind.wrap_i64]; omega
  have hneg : ¬ ((k : Int) < 0) := by omega
  have hkz : k ≠ 0 := by omega
  have hns : ¬ (k * ti.size = 0) := Nat.mul_ne_zero hkz (by omega)
  have h63' : ¬ (9223372036854775807 < ((i : Int) + (k : Int))) := by omega
  have h48' : ¬ (281474976710656 < Builtin.nextslicecap (i + k) c * ti.bytes) := by have := growslice_fits hg hb; omega
  have h48i : ¬ (281474976710656 < (k : Int) * (ti.bytes : Int)) := by
    have : k * ti.bytes ≤ (i + k) * ti.bytes := Nat.mul_le_mul_right _ (by omega)
    rw [← Int.natCast_mul]
    omega
  have hfo := run_firstCells_some (P := P) w.drew ti.size i ⟨g, 0, none⟩ i c (E.take i).flatten (by rw [flat_len (fun x hx => h.len x (List.mem_of_mem_take hx)), hti]) (fun j u hu => by
    rw [Addr.add_mid]
    have := h.cells 0 i j u (by simpa using hu)
    simpa using this)
  simp [Builtin.append_, run_underlying ht, run_underlying htn, sizeOf, typeInfo, zeroValue, hi, hz, asInt, asIntOf, hw', hneg, hns, hn, h63', h48', h48i, Question.forced, hfo, newRow, grownCap]
  congr 2
  apply Array.ext'
  rw [z3]
  simp [grownCap]
end

theorem ownBlock_slice (A : Option Addr) (n c : Nat) : (Value.slice A n c).ownBlock = A.map (·.block) := by cases A <;> rfl

def InsPost (w : World) (base : Nat) (e : TypeId) (sz : Nat) (v : Value) (els : List (List Value)) (E : Ending) (w' : World) : Prop :=
  ∃ A c, E = .returned (.slice A els.length c) ∧ els.length ≤ c ∧ Own w' base e sz (.slice A els.length c) els ∧ w.grownBy w' v.ownBlock

theorem sizeOf42 (w : World) : (sizeOf 42).run Tryd.prog w = .ok 2 w := by
  obtain ⟨_, ⟨i, z, hi, _, hs, _⟩, _⟩ := el42
  simp [sizeOf, typeInfo, hi, hs]
theorem overlapsP (w : World) (gv g la ca lb cb o : Nat) (cv E : Array Value) (hv : w.heap[gv]? = some (.cells cv 42 (0, 0))) (hg : w.heap[g]? = some (.cells E 42 (0, 0))) (hne : gv ≠ g) (hE : E.size ≠ 0) :
    (callFunc 76 #[.slice (some ⟨gv, 0, none⟩) la ca, .slice (some ⟨g, o, none⟩) lb cb]).run Tryd.prog w = .ok (.value (.bool false)) w := by
  rw [run_callFunc_extern Tryd.func76 (by kernel_rfl) (by kernel_rfl) (by kernel_rfl) (e := Extern.SlicesOverlaps.overlaps #[22, 22] #[4]) (by kernel_rfl),
    Lib.run_overlaps_apart w 22 4 42 Tryd.underlying22 2 sizeOf42 ⟨gv, 0, none⟩ ⟨g, o, none⟩ la ca lb cb hne 42 42 cv.size E.size (by simp [World.shape?, hv]) (by simp [World.shape?, hg]) hE (by simp [World.frozen?, hv]) (by simp [World.frozen?, hv])]
  rfl

set_option maxHeartbeats 400000 in
set_option maxRecDepth 100000 in
theorem insP_any (base : Nat) (A : Option Addr) (n c i gv : Nat) (els : List (List Value)) (y : List Value) (cy : Array Value) (w : World) (ho : Own w base 42 2 (.slice A n c) els) (h1 : ∀ y ∈ els, ∀ u ∈ y, u.oneCell' = true) (hi : i ≤ n) (hn : n ≤ 1000000)
    (hy : y.length = 2) (hy1 : ∀ u ∈ y, u.oneCell' = true) (hcy : cy = y.toArray) (hv : w.heap[gv]? = some (.cells cy 42 (0, 0))) (hne : (Value.slice A n c).ownBlock ≠ some gv) (hbase : base ≤ w.heap.size) :
    Calls Tryd.prog 64 #[.slice A n c, .int .i64 i, .slice (some ⟨gv, 0, none⟩) 1 1] w (InsPost w base 42 2 (.slice A n c) (els.take i ++ (y :: els.drop i))) := by
  subst hcy
  obtain ⟨hlen, hb⟩ := ho.blk
  have hrow : Row w (fun t => t = 42) 2 (some ⟨gv, 0, none⟩) [y] := fun k x hx => by
    cases k with
    | zero => simp at hx; subst hx; exact ⟨gv, 0, 42, y.toArray, (0, 0), rfl, hv, rfl, fun j u hu => by simpa using hu⟩
    | succ k => simp at hx
  by_cases hin : i = n
  · -- at the end
    have HO := Lib.hid ho
    have HROW := Lib.hid hrow
    have HL := Lib.hid hlen
    have hyl : ∀ x ∈ [y], x.length = 2 := fun x hx => by simp at hx; subst hx; exact hy
    have hyo : ∀ x ∈ [y], ∀ u ∈ x, u.oneCell' = true := fun x hx => by simp at hx; subst hx; exact hy1
    have HYL := Lib.hid hyl
    have HYO := Lib.hid hyo
    subst hin
    clear ho hrow hlen hb h1 hy hy1 hv hne hyl hyo
    by_cases hci : c = i
    all_goals
      go_enter Tryd.func64, Tryd.ntmps64
      go_wp2_with (at_builtin; refine appendOwn rfl (.tmp 23) (.tmp 24) 22 rfl base 42 2 32 el42 _ els [y] rfl HO.out (some _) 1 1 rfl rfl (fun t => t = 42) HROW.out HYL.out HYO.out (by have := HL.out; simp [maxLen]; omega) (by have := HL.out; simp; omega) hbase ?_)
      intro v' w' hov hg _
      obtain ⟨A', c', hv', hc', _⟩ := hov.row
      subst hv'
      go_wp2
      go_ret
      have e1 : els.take i ++ (y :: els.drop i) = els ++ [y] := by rw [HL.out, List.take_length, List.drop_length]
      rw [e1]
      exact ⟨A', c', rfl, hc', hov, by simpa only [ownBlock_slice] using hg⟩
  · rcases hb with ⟨rfl, rfl, rfl⟩ | ⟨g, E, rfl, hB, hE, hEn, hnc, hbg, hcm⟩
    · simp at hlen; omega
    have hlt : i < n := by omega
    have hgv : gv ≠ g := fun e => hne (by rw [e]; rfl)
    have hgv' : g ≠ gv := fun e => hgv e.symm
    have HB := Lib.hid hB
    have HE := Lib.hid hE
    have HEN := Lib.hid hEn
    have HL := Lib.hid hlen
    have H1 := Lib.hid h1
    have HV := Lib.hid hv
    have hyl : ∀ x ∈ [y], x.length = 2 := fun x hx => by simp at hx; subst hx; exact hy
    have hyo : ∀ x ∈ [y], ∀ u ∈ x, u.oneCell' = true := fun x hx => by simp at hx; subst hx; exact hy1
    have HYL := Lib.hid hyl
    have HYO := Lib.hid hyo
    clear hB hE hEn ho hlen h1 hy hy1 hrow hv hne hyl hyo
    -- what is shifted
    obtain ⟨ys, hys⟩ : ∃ ys, ys = (E.drop i).take (n - i) := ⟨_, rfl⟩
    have hysn : ys.length = n - i := by rw [hys, List.length_take, List.length_drop]; have := HE.out; omega
    have hysz : ∀ x ∈ ys, x.length = 2 := fun x hx => HB.out.len x (by rw [hys] at hx; exact List.mem_of_mem_drop (List.mem_of_mem_take hx))
    have hyse : ys = els.drop i := by rw [hys, ← HEN.out, List.drop_take]
    have hyso : ∀ x ∈ ys, ∀ u ∈ x, u.oneCell' = true := fun x hx => H1.out x (by rw [hyse] at hx; exact List.mem_of_mem_drop hx)
    have hysc := HB.out.cells i (n - i)
    rw [← hys] at hysc
    have HYS := Lib.hid hys
    have HYSN := Lib.hid hysn
    have HYSZ := Lib.hid hysz
    have HYSE := Lib.hid hyse
    have HYSO := Lib.hid hyso
    have HYSC := Lib.hid hysc
    clear hys hysn hysz hyse hyso hysc
    have hin' : ((i : Int) == (n : Int)) = false := by simp; omega
    have k1 : (i : Int) ≤ (n : Int) := by omega
    have k2 : i ≤ c := by omega
    have k3 : ¬ c = i := by omega
    have hEtake : E.take i = els.take i := by rw [← HEN.out, List.take_take, Nat.min_eq_left hi]
    have HET := Lib.hid hEtake
    clear hEtake
    by_cases hroom : n + 1 ≤ c
    · -- in place
      have k4 : ¬ ((c : Int) < (n : Int) + 1) := by omega
      have k5 : ¬ c = i + 1 := by omega
      have k6 : (i : Int) + 1 ≤ (n : Int) + 1 := by omega
      have k7 : (n : Int) + 1 ≤ (c : Int) := by omega
      have k8 : (i : Int) ≤ (n : Int) + 1 := by omega
      have k9 : (0 : Int) ≤ (i : Int) + 1 := by omega
      have k10 : (0 : Int) ≤ (n : Int) + 1 := by omega
      have HOV := Lib.hid (fun (lb cb : Nat) => overlapsP w gv g 1 1 lb cb ((i + 1) * 2) y.toArray E.flatten.toArray HV.out HB.out.at_ hgv (by
        rw [List.size_toArray, flat_len HB.out.len, HE.out]; omega))
      have hBd : Blk w.drew g 42 2 E := ⟨HB.out.at_, HB.out.len⟩
      have hcp1 := fun (ty : TypeId) (dl dc m c' : Nat) (hm : ys.length = Nat.min m dl) => run_copy_blk (P := Tryd.prog) (ty := ty) (st := 22) el42 hBd (i + 1) dl dc ys HYSZ.out HYSO.out ⟨g, i * 2, none⟩ m c' hm (fun j u hu => by rw [Addr.add_mid]; exact HYSC.out j u hu) (by rw [HYSN.out, HE.out]; omega)
      have hB1 := hBd.store (i + 1) ys HYSZ.out
      have hl1 : (spl E (i + 1) ys).length = c := by rw [spl_len _ _ _ (by rw [HYSN.out, HE.out]; omega)]; exact HE.out
      have hcp2 := fun (ty : TypeId) (dl dc : Nat) (hm : 1 = Nat.min 1 dl) => run_copy_blk (P := Tryd.prog) (ty := ty) (st := 22) el42 hB1 i dl dc [y] HYL.out HYO.out ⟨gv, 0, none⟩ 1 1 hm (fun j u hu => by
        rw [Addr.add_mid, Nat.zero_add]
        rw [cell_setRow_other _ _ _ _ hgv, cell_of_row w.drew gv j y.toArray 42 (0, 0) HV.out]
        simpa using hu) (by rw [hl1]; simp; omega)
      have hB2 := hB1.store i [y] HYL.out
      have hl2 : (spl (spl E (i + 1) ys) i [y]).length = c := by rw [spl_len _ _ _ (by rw [hl1]; simp; omega)]; exact hl1
      have hels : (spl (spl E (i + 1) ys) i [y]).take (n + 1) = els.take i ++ (y :: els.drop i) := by
        have e1 : (spl E (i + 1) ys).take (n + 1) = E.take (i + 1) ++ ys := by
          have : n + 1 = i + 1 + ys.length := by rw [HYSN.out]; omega
          rw [this, spl_take_end _ _ _ (by rw [HE.out]; omega)]
        have e2 : (spl (spl E (i + 1) ys) i [y]).take (n + 1) = (spl E (i + 1) ys).take i ++ (y :: ((spl E (i + 1) ys).drop (i + 1)).take (n - i)) := by
          have e3 : ((spl E (i + 1) ys).take i).length = i := by rw [List.length_take, hl1]; omega
          rw [spl, List.take_append, e3, List.take_of_length_le (by omega), show n + 1 - i = (n - i) + 1 from by omega]
          rfl
        have e4 : (spl E (i + 1) ys).take i = E.take i := by
          have e6 : (E.take (i + 1)).length = i + 1 := by rw [List.length_take, HE.out]; omega
          rw [spl, List.take_append_of_le_length (by omega), List.take_take, Nat.min_eq_left (by omega)]
        have e5 : ((spl E (i + 1) ys).drop (i + 1)).take (n - i) = ys := by
          have e6 : (E.take (i + 1)).length = i + 1 := by rw [List.length_take, HE.out]; omega
          have e7 : (E.take (i + 1)).drop (i + 1) = [] := List.drop_eq_nil_of_le (by omega)
          rw [spl, List.drop_append, e6, e7, Nat.sub_self, List.drop_zero, List.nil_append, ← HYSN.out, List.take_left]
        rw [e2, e4, e5, HET.out, HYSE.out]
      have hnl : (els.take i ++ (y :: els.drop i)).length = n + 1 := by have := HL.out; simp; omega
      have hown := hB2.own hbg hl2 hroom hcm hels
      have hgr : w.grownBy ((w.drew.setRow g (spl E (i + 1) ys).flatten.toArray).setRow g (spl (spl E (i + 1) ys) i [y]).flatten.toArray) (some g) := grown_rows _ _ _ _
      have HFIN : Hid (InsPost w base 42 2 (.slice (some ⟨g, 0, none⟩) n c) (els.take i ++ (y :: els.drop i)) (.returned (.slice (some ⟨g, 0, none⟩) (n + 1) c)) ((w.drew.setRow g (spl E (i + 1) ys).flatten.toArray).setRow g (spl (spl E (i + 1) ys) i [y]).flatten.toArray)) := by
        refine ⟨some ⟨g, 0, none⟩, c, by rw [hnl], by rw [hnl]; omega, by rw [hnl]; exact hown, hgr⟩
      have HC1 := Lib.hid hcp1
      have HC2 := Lib.hid hcp2
      have hov := HOV.out
      clear hcp1 hcp2 hB1 hl1 hB2 hl2 hels hnl hown hgr hBd
      go_enter Tryd.func64, Tryd.ntmps64
      go_wp2
      have hw1 : IntKind.i64.wrap ((i : Int) + 1) = (i : Int) + 1 := by rw [IntKind.wrap_i64]; omega
      have htn : ((i : Int) + 1).toNat = i + 1 := by omega
      go_still_tail 8, (by kernel_rfl)
      clear hw1 htn
      change wpList _ _ _ _ _ w.drew
      refine list_cpy rfl (.tmp 73) (.tmp 76) 22 22 rfl _ _ rfl rfl _ (HC1.out _ _ _ _ _ ?a1) ?_
      case a1 => rw [HYSN.out]; simp only [Nat.min_def]; split <;> omega
      go_wp2_with (with_reducible refine list_cpy rfl (.tmp 80) (.tmp 81) 22 22 rfl _ _ rfl rfl _ (HC2.out _ _ _ ?a2) ?_)
      case a2 => simp only [Nat.min_def]; split <;> omega
      go_wp2
      go_ret
      exact HFIN.out
    · -- a new row
      have m0 : n = c := by omega
      have m1 : (c : Int) < (n : Int) + 1 := by omega
      have k9 : (0 : Int) ≤ (i : Int) + 1 := by omega
      have k10 : (0 : Int) ≤ (n : Int) + 1 := by omega
      have k11 : (i : Int) + 1 ≤ (n : Int) + 1 := by omega
      have k12 : (i : Int) ≤ (n : Int) + 1 := by omega
      have k13 : (i : Int) ≤ (c : Int) := by omega
      have M0 := Lib.hid m0
      clear m0
      obtain ⟨cap, E2, hB2, hl2, hcap, hcapm, ht2, hrun⟩ := run_append_make (P := Tryd.prog) (ty := 22) (kn := .i64) el42 Tryd.underlying3 HB.out i c (n + 1 - i) HE.out k2 (by omega) (by omega) (by omega) (by omega)
      rw [show i + (n + 1 - i) = n + 1 from by omega] at hcap hrun
      have hcast : ((n + 1 - i : Nat) : Int) = (n : Int) + 1 - (i : Int) := by omega
      rw [hcast] at hrun
      have hgW : g < w.heap.size := heap_lt HB.out.at_
      have hgvW : gv < w.heap.size := heap_lt HV.out
      have hB2 : Blk ((w.alloc (.cells E2.flatten.toArray 42)).drew) w.heap.size 42 2 E2 := ⟨hB2.at_, hB2.len⟩
      -- first copy
      have hcp1 := fun (ty : TypeId) (dl dc : Nat) (hm : 1 = Nat.min 1 dl) => run_copy_blk (P := Tryd.prog) (ty := ty) (st := 22) el42 hB2 i dl dc [y] HYL.out HYO.out ⟨gv, 0, none⟩ 1 1 hm (fun j u hu => by
        rw [Addr.add_mid, Nat.zero_add, World.cell?_drew, World.cell?_alloc_lt _ _ _ hgvW, cell_of_row w gv j y.toArray 42 (0, 0) HV.out]
        simpa using hu) (by rw [hl2]; simp; omega)
      have hB3 := hB2.store i [y] HYL.out
      have hl3 : (spl E2 i [y]).length = cap := by rw [spl_len _ _ _ (by rw [hl2]; simp; omega)]; exact hl2
      have hgn : g ≠ w.heap.size := by omega
      -- second copy, behind a draw
      have hB4 : Blk ((((w.alloc (.cells E2.flatten.toArray 42)).drew).setRow w.heap.size (spl E2 i [y]).flatten.toArray).drew) w.heap.size 42 2 (spl E2 i [y]) := ⟨hB3.at_, hB3.len⟩
      have hcp2 := fun (ty : TypeId) (dl dc m c' : Nat) (hm : ys.length = Nat.min m dl) => run_copy_blk (P := Tryd.prog) (ty := ty) (st := 22) el42 hB4 (i + 1) dl dc ys HYSZ.out HYSO.out ⟨g, i * 2, none⟩ m c' hm (fun j u hu => by
        rw [Addr.add_mid]
        show (((w.alloc (.cells E2.flatten.toArray 42)).drew).setRow w.heap.size (spl E2 i [y]).flatten.toArray).cell? _ = _
        rw [cell_setRow_other _ _ _ _ hgn, World.cell?_drew, World.cell?_alloc_lt _ _ _ hgW]
        exact HYSC.out j u hu) (by rw [HYSN.out, hl3]; omega)
      have hB5 := hB4.store (i + 1) ys HYSZ.out
      have hl5 : (spl (spl E2 i [y]) (i + 1) ys).length = cap := by rw [spl_len _ _ _ (by rw [HYSN.out, hl3]; omega)]; exact hl3
      have hels : (spl (spl E2 i [y]) (i + 1) ys).take (n + 1) = els.take i ++ (y :: els.drop i) := by
        have : n + 1 = i + 1 + ys.length := by rw [HYSN.out]; omega
        rw [this, spl_take_end _ _ _ (by rw [hl3]; omega)]
        have e1 : (spl E2 i [y]).take (i + 1) = E2.take i ++ [y] := spl_take_end E2 i [y] (by rw [hl2]; omega)
        rw [e1, ht2, HET.out, HYSE.out, List.append_assoc]
        rfl
      have hnl : (els.take i ++ (y :: els.drop i)).length = n + 1 := by have := HL.out; simp; omega
      have hown := hB5.own hbase hl5 hcap hcapm hels
      obtain ⟨W5, hW5⟩ : ∃ W5, W5 = ((((w.alloc (.cells E2.flatten.toArray 42)).drew).setRow w.heap.size (spl E2 i [y]).flatten.toArray).drew).setRow w.heap.size (spl (spl E2 i [y]) (i + 1) ys).flatten.toArray := ⟨_, rfl⟩
      have hgr : w.grownBy W5 (some g) := by
        rw [hW5]
        refine ⟨rfl, rfl, rfl, by simp, fun k hk _ => ?_⟩
        have hk' : k ≠ w.heap.size := by omega
        rw [setRow_other _ _ _ _ hk']
        show (((w.alloc _).drew).setRow w.heap.size _).heap[k]? = _
        rw [setRow_other _ _ _ _ hk', heap_drew_eq, heap_alloc_eq, if_neg hk']
      rw [← hW5] at hown
      have HFIN : Hid (InsPost w base 42 2 (.slice (some ⟨g, 0, none⟩) n c) (els.take i ++ (y :: els.drop i)) (.returned (.slice (some ⟨w.heap.size, 0, none⟩) (n + 1) cap)) W5) := by
        refine ⟨some ⟨w.heap.size, 0, none⟩, cap, by rw [hnl], by rw [hnl]; omega, by rw [hnl]; exact hown, hgr⟩
      have HRUN := Lib.hid hrun
      have HC1 := Lib.hid hcp1
      have HC2 := Lib.hid hcp2
      have HW5 := Lib.hid hW5
      have m3 : ¬ cap = i := by omega
      have m4 : ¬ cap = i + 1 := by omega
      clear hB2 hl2 ht2 hrun hcp1 hB3 hl3 hB4 hcp2 hB5 hl5 hels hnl hown hgr hW5 hcast
      go_enter Tryd.func64, Tryd.ntmps64
      go_wp2_with (first
        | (at_builtin; (refine list_app rfl (.tmp 34) (.tmp 39) 22 3 rfl _ _ rfl rfl _ HRUN.out ?_))
        | (with_reducible refine list_cpy rfl (.tmp 43) (.tmp 44) 22 22 rfl _ _ rfl rfl _ (HC1.out _ _ _ (by simp only [Nat.min_def]; split <;> omega)) ?_))
      have hw1 : IntKind.i64.wrap ((i : Int) + 1) = (i : Int) + 1 := by rw [IntKind.wrap_i64]; omega
      have htn : ((i : Int) + 1).toNat = i + 1 := by omega
      go_still_tail 8, (by kernel_rfl)
      clear hw1 htn
      change wpList _ _ _ _ _ (((w.alloc (.cells E2.flatten.toArray 42)).drew.setRow w.heap.size (spl E2 i [y]).flatten.toArray).drew)
      refine list_cpy rfl (.tmp 50) (.tmp 53) 22 22 rfl _ _ rfl rfl _ (HC2.out _ _ _ _ _ (by rw [HYSN.out]; simp only [Nat.min_def]; split <;> omega)) ?_
      rw [← HW5.out]
      go_wp2
      go_ret
      exact HFIN.out

theorem sizeOf36 (w : World) : (sizeOf 36).run Tryd.prog w = .ok 4 w := by
  obtain ⟨_, ⟨i, z, hi, _, hs, _⟩, _⟩ := el36
  simp [sizeOf, typeInfo, hi, hs]
theorem overlapsR (w : World) (gv g la ca lb cb o : Nat) (cv E : Array Value) (hv : w.heap[gv]? = some (.cells cv 36 (0, 0))) (hg : w.heap[g]? = some (.cells E 36 (0, 0))) (hne : gv ≠ g) (hE : E.size ≠ 0) :
    (callFunc 52 #[.slice (some ⟨gv, 0, none⟩) la ca, .slice (some ⟨g, o, none⟩) lb cb]).run Tryd.prog w = .ok (.value (.bool false)) w := by
  rw [run_callFunc_extern Tryd.func52 (by kernel_rfl) (by kernel_rfl) (by kernel_rfl) (e := Extern.SlicesOverlaps.overlaps #[23, 23] #[4]) (by kernel_rfl),
    Lib.run_overlaps_apart w 23 4 36 Tryd.underlying23 4 sizeOf36 ⟨gv, 0, none⟩ ⟨g, o, none⟩ la ca lb cb hne 36 36 cv.size E.size (by simp [World.shape?, hv]) (by simp [World.shape?, hg]) hE (by simp [World.frozen?, hv]) (by simp [World.frozen?, hv])]
  rfl

set_option maxHeartbeats 400000 in
set_option maxRecDepth 100000 in
theorem insR_any (base : Nat) (A : Option Addr) (n c i gv : Nat) (els : List (List Value)) (y : List Value) (cy : Array Value) (w : World) (ho : Own w base 36 4 (.slice A n c) els) (h1 : ∀ y ∈ els, ∀ u ∈ y, u.oneCell' = true) (hi : i ≤ n) (hn : n ≤ 1000000)
    (hy : y.length = 4) (hy1 : ∀ u ∈ y, u.oneCell' = true) (hcy : cy = y.toArray) (hv : w.heap[gv]? = some (.cells cy 36 (0, 0))) (hne : (Value.slice A n c).ownBlock ≠ some gv) (hbase : base ≤ w.heap.size) :
    Calls Tryd.prog 36 #[.slice A n c, .int .i64 i, .slice (some ⟨gv, 0, none⟩) 1 1] w (InsPost w base 36 4 (.slice A n c) (els.take i ++ (y :: els.drop i))) := by
  subst hcy
  obtain ⟨hlen, hb⟩ := ho.blk
  have hrow : Row w (fun t => t = 36) 4 (some ⟨gv, 0, none⟩) [y] := fun k x hx => by
    cases k with
    | zero => simp at hx; subst hx; exact ⟨gv, 0, 36, y.toArray, (0, 0), rfl, hv, rfl, fun j u hu => by simpa using hu⟩
    | succ k => simp at hx
  by_cases hin : i = n
  · -- at the end
    have HO := Lib.hid ho
    have HROW := Lib.hid hrow
    have HL := Lib.hid hlen
    have hyl : ∀ x ∈ [y], x.length = 4 := fun x hx => by simp at hx; subst hx; exact hy
    have hyo : ∀ x ∈ [y], ∀ u ∈ x, u.oneCell' = true := fun x hx => by simp at hx; subst hx; exact hy1
    have HYL := Lib.hid hyl
    have HYO := Lib.hid hyo
    subst hin
    clear ho hrow hlen hb h1 hy hy1 hv hne hyl hyo
    by_cases hci : c = i
    all_goals
      go_enter Tryd.func36, Tryd.ntmps36
      go_wp2_with (at_builtin; refine appendOwn rfl (.tmp 23) (.tmp 24) 23 rfl base 36 4 48 el36 _ els [y] rfl HO.out (some _) 1 1 rfl rfl (fun t => t = 36) HROW.out HYL.out HYO.out (by have := HL.out; simp [maxLen]; omega) (by have := HL.out; simp; omega) hbase ?_)
      intro v' w' hov hg _
      obtain ⟨A', c', hv', hc', _⟩ := hov.row
      subst hv'
      go_wp2
      go_ret
      have e1 : els.take i ++ (y :: els.drop i) = els ++ [y] := by rw [HL.out, List.take_length, List.drop_length]
      rw [e1]
      exact ⟨A', c', rfl, hc', hov, by simpa only [ownBlock_slice] using hg⟩
  · rcases hb with ⟨rfl, rfl, rfl⟩ | ⟨g, E, rfl, hB, hE, hEn, hnc, hbg, hcm⟩
    · simp at hlen; omega
    have hlt : i < n := by omega
    have hgv : gv ≠ g := fun e => hne (by rw [e]; rfl)
    have hgv' : g ≠ gv := fun e => hgv e.symm
    have HB := Lib.hid hB
    have HE := Lib.hid hE
    have HEN := Lib.hid hEn
    have HL := Lib.hid hlen
    have H1 := Lib.hid h1
    have HV := Lib.hid hv
    have hyl : ∀ x ∈ [y], x.length = 4 := fun x hx => by simp at hx; subst hx; exact hy
    have hyo : ∀ x ∈ [y], ∀ u ∈ x, u.oneCell' = true := fun x hx => by simp at hx; subst hx; exact hy1
    have HYL := Lib.hid hyl
    have HYO := Lib.hid hyo
    clear hB hE hEn ho hlen h1 hy hy1 hrow hv hne hyl hyo
    -- what is shifted
    obtain ⟨ys, hys⟩ : ∃ ys, ys = (E.drop i).take (n - i) := ⟨_, rfl⟩
    have hysn : ys.length = n - i := by rw [hys, List.length_take, List.length_drop]; have := HE.out; omega
    have hysz : ∀ x ∈ ys, x.length = 4 := fun x hx => HB.out.len x (by rw [hys] at hx; exact List.mem_of_mem_drop (List.mem_of_mem_take hx))
    have hyse : ys = els.drop i := by rw [hys, ← HEN.out, List.drop_take]
    have hyso : ∀ x ∈ ys, ∀ u ∈ x, u.oneCell' = true := fun x hx => H1.out x (by rw [hyse] at hx; exact List.mem_of_mem_drop hx)
    have hysc := HB.out.cells i (n - i)
    rw [← hys] at hysc
    have HYS := Lib.hid hys
    have HYSN := Lib.hid hysn
    have HYSZ := Lib.hid hysz
    have HYSE := Lib.hid hyse
    have HYSO := Lib.hid hyso
    have HYSC := Lib.hid hysc
    clear hys hysn hysz hyse hyso hysc
    have hin' : ((i : Int) == (n : Int)) = false := by simp; omega
    have k1 : (i : Int) ≤ (n : Int) := by omega
    have k2 : i ≤ c := by omega
    have k3 : ¬ c = i := by omega
    have hEtake : E.take i = els.take i := by rw [← HEN.out, List.take_take, Nat.min_eq_left hi]
    have HET := Lib.hid hEtake
    clear hEtake
    by_cases hroom : n + 1 ≤ c
    · -- in place
      have k4 : ¬ ((c : Int) < (n : Int) + 1) := by omega
      have k5 : ¬ c = i + 1 := by omega
      have k6 : (i : Int) + 1 ≤ (n : Int) + 1 := by omega
      have k7 : (n : Int) + 1 ≤ (c : Int) := by omega
      have k8 : (i : Int) ≤ (n : Int) + 1 := by omega
      have k9 : (0 : Int) ≤ (i : Int) + 1 := by omega
      have k10 : (0 : Int) ≤ (n : Int) + 1 := by omega
      have HOV := Lib.hid (fun (lb cb : Nat) => overlapsR w gv g 1 1 lb cb ((i + 1) * 4) y.toArray E.flatten.toArray HV.out HB.out.at_ hgv (by
        rw [List.size_toArray, flat_len HB.out.len, HE.out]; omega))
      have hBd : Blk w.drew g 36 4 E := ⟨HB.out.at_, HB.out.len⟩
      have hcp1 := fun (ty : TypeId) (dl dc m c' : Nat) (hm : ys.length = Nat.min m dl) => run_copy_blk (P := Tryd.prog) (ty := ty) (st := 23) el36 hBd (i + 1) dl dc ys HYSZ.out HYSO.out ⟨g, i * 4, none⟩ m c' hm (fun j u hu => by rw [Addr.add_mid]; exact HYSC.out j u hu) (by rw [HYSN.out, HE.out]; omega)
      have hB1 := hBd.store (i + 1) ys HYSZ.out
      have hl1 : (spl E (i + 1) ys).length = c := by rw [spl_len _ _ _ (by rw [HYSN.out, HE.out]; omega)]; exact HE.out
      have hcp2 := fun (ty : TypeId) (dl dc : Nat) (hm : 1 = Nat.min 1 dl) => run_copy_blk (P := Tryd.prog) (ty := ty) (st := 23) el36 hB1 i dl dc [y] HYL.out HYO.out ⟨gv, 0, none⟩ 1 1 hm (fun j u hu => by
        rw [Addr.add_mid, Nat.zero_add]
        rw [cell_setRow_other _ _ _ _ hgv, cell_of_row w.drew gv j y.toArray 36 (0, 0) HV.out]
        simpa using hu) (by rw [hl1]; simp; omega)
      have hB2 := hB1.store i [y] HYL.out
      have hl2 : (spl (spl E (i + 1) ys) i [y]).length = c := by rw [spl_len _ _ _ (by rw [hl1]; simp; omega)]; exact hl1
      have hels : (spl (spl E (i + 1) ys) i [y]).take (n + 1) = els.take i ++ (y :: els.drop i) := by
        have e1 : (spl E (i + 1) ys).take (n + 1) = E.take (i + 1) ++ ys := by
          have : n + 1 = i + 1 + ys.length := by rw [HYSN.out]; omega
          rw [this, spl_take_end _ _ _ (by rw [HE.out]; omega)]
        have e2 : (spl (spl E (i + 1) ys) i [y]).take (n + 1) = (spl E (i + 1) ys).take i ++ (y :: ((spl E (i + 1) ys).drop (i + 1)).take (n - i)) := by
          have e3 : ((spl E (i + 1) ys).take i).length = i := by rw [List.length_take, hl1]; omega
          rw [spl, List.take_append, e3, List.take_of_length_le (by omega), show n + 1 - i = (n - i) + 1 from by omega]
          rfl
        have e4 : (spl E (i + 1) ys).take i = E.take i := by
          have e6 : (E.take (i + 1)).length = i + 1 := by rw [List.length_take, HE.out]; omega
          rw [spl, List.take_append_of_le_length (by omega), List.take_take, Nat.min_eq_left (by omega)]
        have e5 : ((spl E (i + 1) ys).drop (i + 1)).take (n - i) = ys := by
          have e6 : (E.take (i + 1)).length = i + 1 := by rw [List.length_take, HE.out]; omega
          have e7 : (E.take (i + 1)).drop (i + 1) = [] := List.drop_eq_nil_of_le (by omega)
          rw [spl, List.drop_append, e6, e7, Nat.sub_self, List.drop_zero, List.nil_append, ← HYSN.out, List.take_left]
        rw [e2, e4, e5, HET.out, HYSE.out]
      have hnl : (els.take i ++ (y :: els.drop i)).length = n + 1 := by have := HL.out; simp; omega
      have hown := hB2.own hbg hl2 hroom hcm hels
      have hgr : w.grownBy ((w.drew.setRow g (spl E (i + 1) ys).flatten.toArray).setRow g (spl (spl E (i + 1) ys) i [y]).flatten.toArray) (some g) := grown_rows _ _ _ _
      have HFIN : Hid (InsPost w base 36 4 (.slice (some ⟨g, 0, none⟩) n c) (els.take i ++ (y :: els.drop i)) (.returned (.slice (some ⟨g, 0, none⟩) (n + 1) c)) ((w.drew.setRow g (spl E (i + 1) ys).flatten.toArray).setRow g (spl (spl E (i + 1) ys) i [y]).flatten.toArray)) := by
        refine ⟨some ⟨g, 0, none⟩, c, by rw [hnl], by rw [hnl]; omega, by rw [hnl]; exact hown, hgr⟩
      have HC1 := Lib.hid hcp1
      have HC2 := Lib.hid hcp2
      have hov := HOV.out
      clear hcp1 hcp2 hB1 hl1 hB2 hl2 hels hnl hown hgr hBd
      go_enter Tryd.func36, Tryd.ntmps36
      go_wp2
      have hw1 : IntKind.i64.wrap ((i : Int) + 1) = (i : Int) + 1 := by rw [IntKind.wrap_i64]; omega
      have htn : ((i : Int) + 1).toNat = i + 1 := by omega
      go_still_tail 8, (by kernel_rfl)
      clear hw1 htn
      change wpList _ _ _ _ _ w.drew
      refine list_cpy rfl (.tmp 73) (.tmp 76) 23 23 rfl _ _ rfl rfl _ (HC1.out _ _ _ _ _ ?a1) ?_
      case a1 => rw [HYSN.out]; simp only [Nat.min_def]; split <;> omega
      go_wp2_with (with_reducible refine list_cpy rfl (.tmp 80) (.tmp 81) 23 23 rfl _ _ rfl rfl _ (HC2.out _ _ _ ?a2) ?_)
      case a2 => simp only [Nat.min_def]; split <;> omega
      go_wp2
      go_ret
      exact HFIN.out
    · -- a new row
      have m0 : n = c := by omega
      have m1 : (c : Int) < (n : Int) + 1 := by omega
      have k9 : (0 : Int) ≤ (i : Int) + 1 := by omega
      have k10 : (0 : Int) ≤ (n : Int) + 1 := by omega
      have k11 : (i : Int) + 1 ≤ (n : Int) + 1 := by omega
      have k12 : (i : Int) ≤ (n : Int) + 1 := by omega
      have k13 : (i : Int) ≤ (c : Int) := by omega
      have M0 := Lib.hid m0
      clear m0
      obtain ⟨cap, E2, hB2, hl2, hcap, hcapm, ht2, hrun⟩ := run_append_make (P := Tryd.prog) (ty := 23) (kn := .i64) el36 Tryd.underlying3 HB.out i c (n + 1 - i) HE.out k2 (by omega) (by omega) (by omega) (by omega)
      rw [show i + (n + 1 - i) = n + 1 from by omega] at hcap hrun
      have hcast : ((n + 1 - i : Nat) : Int) = (n : Int) + 1 - (i : Int) := by omega
      rw [hcast] at hrun
      have hgW : g < w.heap.size := heap_lt HB.out.at_
      have hgvW : gv < w.heap.size := heap_lt HV.out
      have hB2 : Blk ((w.alloc (.cells E2.flatten.toArray 36)).drew) w.heap.size 36 4 E2 := ⟨hB2.at_, hB2.len⟩
      -- first copy
      have hcp1 := fun (ty : TypeId) (dl dc : Nat) (hm : 1 = Nat.min 1 dl) => run_copy_blk (P := Tryd.prog) (ty := ty) (st := 23) el36 hB2 i dl dc [y] HYL.out HYO.out ⟨gv, 0, none⟩ 1 1 hm (fun j u hu => by
        rw [Addr.add_mid, Nat.zero_add, World.cell?_drew, World.cell?_alloc_lt _ _ _ hgvW, cell_of_row w gv j y.toArray 36 (0, 0) HV.out]
        simpa using hu) (by rw [hl2]; simp; omega)
      have hB3 := hB2.store i [y] HYL.out
      have hl3 : (spl E2 i [y]).length = cap := by rw [spl_len _ _ _ (by rw [hl2]; simp; omega)]; exact hl2
      have hgn : g ≠ w.heap.size := by omega
      -- second copy, behind a draw
      have hB4 : Blk ((((w.alloc (.cells E2.flatten.toArray 36)).drew).setRow w.heap.size (spl E2 i [y]).flatten.toArray).drew) w.heap.size 36 4 (spl E2 i [y]) := ⟨hB3.at_, hB3.len⟩
      have hcp2 := fun (ty : TypeId) (dl dc m c' : Nat) (hm : ys.length = Nat.min m dl) => run_copy_blk (P := Tryd.prog) (ty := ty) (st := 23) el36 hB4 (i + 1) dl dc ys HYSZ.out HYSO.out ⟨g, i * 4, none⟩ m c' hm (fun j u hu => by
        rw [Addr.add_mid]
        show (((w.alloc (.cells E2.flatten.toArray 36)).drew).setRow w.heap.size (spl E2 i [y]).flatten.toArray).cell? _ = _
        rw [cell_setRow_other _ _ _ _ hgn, World.cell?_drew, World.cell?_alloc_lt _ _ _ hgW]
        exact HYSC.out j u hu) (by rw [HYSN.out, hl3]; omega)
      have hB5 := hB4.store (i + 1) ys HYSZ.out
      have hl5 : (spl (spl E2 i [y]) (i + 1) ys).length = cap := by rw [spl_len _ _ _ (by rw [HYSN.out, hl3]; omega)]; exact hl3
      have hels : (spl (spl E2 i [y]) (i + 1) ys).take (n + 1) = els.take i ++ (y :: els.drop i) := by
        have : n + 1 = i + 1 + ys.length := by rw [HYSN.out]; omega
        rw [this, spl_take_end _ _ _ (by rw [hl3]; omega)]
        have e1 : (spl E2 i [y]).take (i + 1) = E2.take i ++ [y] := spl_take_end E2 i [y] (by rw [hl2]; omega)
        rw [e1, ht2, HET.out, HYSE.out, List.append_assoc]
        rfl
      have hnl : (els.take i ++ (y :: els.drop i)).length = n + 1 := by have := HL.out; simp; omega
      have hown := hB5.own hbase hl5 hcap hcapm hels
      obtain ⟨W5, hW5⟩ : ∃ W5, W5 = ((((w.alloc (.cells E2.flatten.toArray 36)).drew).setRow w.heap.size (spl E2 i [y]).flatten.toArray).drew).setRow w.heap.size (spl (spl E2 i [y]) (i + 1) ys).flatten.toArray := ⟨_, rfl⟩
      have hgr : w.grownBy W5 (some g) := by
        rw [hW5]
        refine ⟨rfl, rfl, rfl, by simp, fun k hk _ => ?_⟩
        have hk' : k ≠ w.heap.size := by omega
        rw [setRow_other _ _ _ _ hk']
        show (((w.alloc _).drew).setRow w.heap.size _).heap[k]? = _
        rw [setRow_other _ _ _ _ hk', heap_drew_eq, heap_alloc_eq, if_neg hk']
      rw [← hW5] at hown
      have HFIN : Hid (InsPost w base 36 4 (.slice (some ⟨g, 0, none⟩) n c) (els.take i ++ (y :: els.drop i)) (.returned (.slice (some ⟨w.heap.size, 0, none⟩) (n + 1) cap)) W5) := by
        refine ⟨some ⟨w.heap.size, 0, none⟩, cap, by rw [hnl], by rw [hnl]; omega, by rw [hnl]; exact hown, hgr⟩
      have HRUN := Lib.hid hrun
      have HC1 := Lib.hid hcp1
      have HC2 := Lib.hid hcp2
      have HW5 := Lib.hid hW5
      have m3 : ¬ cap = i := by omega
      have m4 : ¬ cap = i + 1 := by omega
      clear hB2 hl2 ht2 hrun hcp1 hB3 hl3 hB4 hcp2 hB5 hl5 hels hnl hown hgr hW5 hcast
      go_enter Tryd.func36, Tryd.ntmps36
      go_wp2_with (first
        | (at_builtin; (refine list_app rfl (.tmp 34) (.tmp 39) 23 3 rfl _ _ rfl rfl _ HRUN.out ?_))
        | (with_reducible refine list_cpy rfl (.tmp 43) (.tmp 44) 23 23 rfl _ _ rfl rfl _ (HC1.out _ _ _ (by simp only [Nat.min_def]; split <;> omega)) ?_))
      have hw1 : IntKind.i64.wrap ((i : Int) + 1) = (i : Int) + 1 := by rw [IntKind.wrap_i64]; omega
      have htn : ((i : Int) + 1).toNat = i + 1 := by omega
      go_still_tail 8, (by kernel_rfl)
      clear hw1 htn
      change wpList _ _ _ _ _ (((w.alloc (.cells E2.flatten.toArray 36)).drew.setRow w.heap.size (spl E2 i [y]).flatten.toArray).drew)
      refine list_cpy rfl (.tmp 50) (.tmp 53) 23 23 rfl _ _ rfl rfl _ (HC2.out _ _ _ _ _ (by rw [HYSN.out]; simp only [Nat.min_def]; split <;> omega)) ?_
      rw [← HW5.out]
      go_wp2
      go_ret
      exact HFIN.out

theorem sizeOf84 (w : World) : (sizeOf 84).run Tryd.prog w = .ok 34 w := by
  obtain ⟨_, ⟨i, z, hi, _, hs, _⟩, _⟩ := el84
  simp [sizeOf, typeInfo, hi, hs]
theorem overlapsM (w : World) (gv g la ca lb cb o : Nat) (cv E : Array Value) (hv : w.heap[gv]? = some (.cells cv 84 (0, 0))) (hg : w.heap[g]? = some (.cells E 84 (0, 0))) (hne : gv ≠ g) (hE : E.size ≠ 0) :
    (callFunc 81 #[.slice (some ⟨gv, 0, none⟩) la ca, .slice (some ⟨g, o, none⟩) lb cb]).run Tryd.prog w = .ok (.value (.bool false)) w := by
  rw [run_callFunc_extern Tryd.func81 (by kernel_rfl) (by kernel_rfl) (by kernel_rfl) (e := Extern.SlicesOverlaps.overlaps #[24, 24] #[4]) (by kernel_rfl),
    Lib.run_overlaps_apart w 24 4 84 Tryd.underlying24 34 sizeOf84 ⟨gv, 0, none⟩ ⟨g, o, none⟩ la ca lb cb hne 84 84 cv.size E.size (by simp [World.shape?, hv]) (by simp [World.shape?, hg]) hE (by simp [World.frozen?, hv]) (by simp [World.frozen?, hv])]
  rfl

set_option maxHeartbeats 400000 in
set_option maxRecDepth 100000 in
theorem insM_any (base : Nat) (A : Option Addr) (n c i gv : Nat) (els : List (List Value)) (y : List Value) (cy : Array Value) (w : World) (ho : Own w base 84 34 (.slice A n c) els) (h1 : ∀ y ∈ els, ∀ u ∈ y, u.oneCell' = true) (hi : i ≤ n) (hn : n ≤ 1000000)
    (hy : y.length = 34) (hy1 : ∀ u ∈ y, u.oneCell' = true) (hcy : cy = y.toArray) (hv : w.heap[gv]? = some (.cells cy 84 (0, 0))) (hne : (Value.slice A n c).ownBlock ≠ some gv) (hbase : base ≤ w.heap.size) :
    Calls Tryd.prog 71 #[.slice A n c, .int .i64 i, .slice (some ⟨gv, 0, none⟩) 1 1] w (InsPost w base 84 34 (.slice A n c) (els.take i ++ (y :: els.drop i))) := by
  subst hcy
  obtain ⟨hlen, hb⟩ := ho.blk
  have hrow : Row w (fun t => t = 84) 34 (some ⟨gv, 0, none⟩) [y] := fun k x hx => by
    cases k with
    | zero => simp at hx; subst hx; exact ⟨gv, 0, 84, y.toArray, (0, 0), rfl, hv, rfl, fun j u hu => by simpa using hu⟩
    | succ k => simp at hx
  by_cases hin : i = n
  · -- at the end
    have HO := Lib.hid ho
    have HROW := Lib.hid hrow
    have HL := Lib.hid hlen
    have hyl : ∀ x ∈ [y], x.length = 34 := fun x hx => by simp at hx; subst hx; exact hy
    have hyo : ∀ x ∈ [y], ∀ u ∈ x, u.oneCell' = true := fun x hx => by simp at hx; subst hx; exact hy1
    have HYL := Lib.hid hyl
    have HYO := Lib.hid hyo
    subst hin
    clear ho hrow hlen hb h1 hy hy1 hv hne hyl hyo
    by_cases hci : c = i
    all_goals
      go_enter Tryd.func71, Tryd.ntmps71
      go_wp2_with (at_builtin; refine appendOwn rfl (.tmp 23) (.tmp 24) 24 rfl base 84 34 48 el84 _ els [y] rfl HO.out (some _) 1 1 rfl rfl (fun t => t = 84) HROW.out HYL.out HYO.out (by have := HL.out; simp [maxLen]; omega) (by have := HL.out; simp; omega) hbase ?_)
      intro v' w' hov hg _
      obtain ⟨A', c', hv', hc', _⟩ := hov.row
      subst hv'
      go_wp2
      go_ret
      have e1 : els.take i ++ (y :: els.drop i) = els ++ [y] := by rw [HL.out, List.take_length, List.drop_length]
      rw [e1]
      exact ⟨A', c', rfl, hc', hov, by simpa only [ownBlock_slice] using hg⟩
  · rcases hb with ⟨rfl, rfl, rfl⟩ | ⟨g, E, rfl, hB, hE, hEn, hnc, hbg, hcm⟩
    · simp at hlen; omega
    have hlt : i < n := by omega
    have hgv : gv ≠ g := fun e => hne (by rw [e]; rfl)
    have hgv' : g ≠ gv := fun e => hgv e.symm
    have HB := Lib.hid hB
    have HE := Lib.hid hE
    have HEN := Lib.hid hEn
    have HL := Lib.hid hlen
    have H1 := Lib.hid h1
    have HV := Lib.hid hv
    have hyl : ∀ x ∈ [y], x.length = 34 := fun x hx => by simp at hx; subst hx; exact hy
    have hyo : ∀ x ∈ [y], ∀ u ∈ x, u.oneCell' = true := fun x hx => by simp at hx; subst hx; exact hy1
    have HYL := Lib.hid hyl
    have HYO := Lib.hid hyo
    clear hB hE hEn ho hlen h1 hy hy1 hrow hv hne hyl hyo
    -- what is shifted
    obtain ⟨ys, hys⟩ : ∃ ys, ys = (E.drop i).take (n - i) := ⟨_, rfl⟩
    have hysn : ys.length = n - i := by rw [hys, List.length_take, List.length_drop]; have := HE.out; omega
    have hysz : ∀ x ∈ ys, x.length = 34 := fun x hx => HB.out.len x (by rw [hys] at hx; exact List.mem_of_mem_drop (List.mem_of_mem_take hx))
    have hyse : ys = els.drop i := by rw [hys, ← HEN.out, List.drop_take]
    have hyso : ∀ x ∈ ys, ∀ u ∈ x, u.oneCell' = true := fun x hx => H1.out x (by rw [hyse] at hx; exact List.mem_of_mem_drop hx)
    have hysc := HB.out.cells i (n - i)
    rw [← hys] at hysc
    have HYS := Lib.hid hys
    have HYSN := Lib.hid hysn
    have HYSZ := Lib.hid hysz
    have HYSE := Lib.hid hyse
    have HYSO := Lib.hid hyso
    have HYSC := Lib.hid hysc
    clear hys hysn hysz hyse hyso hysc
    have hin' : ((i : Int) == (n : Int)) = false := by simp; omega
    have k1 : (i : Int) ≤ (n : Int) := by omega
    have k2 : i ≤ c := by omega
    have k3 : ¬ c = i := by omega
    have hEtake : E.take i = els.take i := by rw [← HEN.out, List.take_take, Nat.min_eq_left hi]
    have HET := Lib.hid hEtake
    clear hEtake
    by_cases hroom : n + 1 ≤ c
    · -- in place
      have k4 : ¬ ((c : Int) < (n : Int) + 1) := by omega
      have k5 : ¬ c = i + 1 := by omega
      have k6 : (i : Int) + 1 ≤ (n : Int) + 1 := by omega
      have k7 : (n : Int) + 1 ≤ (c : Int) := by omega
      have k8 : (i : Int) ≤ (n : Int) + 1 := by omega
      have k9 : (0 : Int) ≤ (i : Int) + 1 := by omega
      have k10 : (0 : Int) ≤ (n : Int) + 1 := by omega
      have HOV := Lib.hid (fun (lb cb : Nat) => overlapsM w gv g 1 1 lb cb ((i + 1) * 34) y.toArray E.flatten.toArray HV.out HB.out.at_ hgv (by
        rw [List.size_toArray, flat_len HB.out.len, HE.out]; omega))
      have hBd : Blk w.drew g 84 34 E := ⟨HB.out.at_, HB.out.len⟩
      have hcp1 := fun (ty : TypeId) (dl dc m c' : Nat) (hm : ys.length = Nat.min m dl) => run_copy_blk (P := Tryd.prog) (ty := ty) (st := 24) el84 hBd (i + 1) dl dc ys HYSZ.out HYSO.out ⟨g, i * 34, none⟩ m c' hm (fun j u hu => by rw [Addr.add_mid]; exact HYSC.out j u hu) (by rw [HYSN.out, HE.out]; omega)
      have hB1 := hBd.store (i + 1) ys HYSZ.out
      have hl1 : (spl E (i + 1) ys).length = c := by rw [spl_len _ _ _ (by rw [HYSN.out, HE.out]; omega)]; exact HE.out
      have hcp2 := fun (ty : TypeId) (dl dc : Nat) (hm : 1 = Nat.min 1 dl) => run_copy_blk (P := Tryd.prog) (ty := ty) (st := 24) el84 hB1 i dl dc [y] HYL.out HYO.out ⟨gv, 0, none⟩ 1 1 hm (fun j u hu => by
        rw [Addr.add_mid, Nat.zero_add]
        rw [cell_setRow_other _ _ _ _ hgv, cell_of_row w.drew gv j y.toArray 84 (0, 0) HV.out]
        simpa using hu) (by rw [hl1]; simp; omega)
      have hB2 := hB1.store i [y] HYL.out
      have hl2 : (spl (spl E (i + 1) ys) i [y]).length = c := by rw [spl_len _ _ _ (by rw [hl1]; simp; omega)]; exact hl1
      have hels : (spl (spl E (i + 1) ys) i [y]).take (n + 1) = els.take i ++ (y :: els.drop i) := by
        have e1 : (spl E (i + 1) ys).take (n + 1) = E.take (i + 1) ++ ys := by
          have : n + 1 = i + 1 + ys.length := by rw [HYSN.out]; omega
          rw [this, spl_take_end _ _ _ (by rw [HE.out]; omega)]
        have e2 : (spl (spl E (i + 1) ys) i [y]).take (n + 1) = (spl E (i + 1) ys).take i ++ (y :: ((spl E (i + 1) ys).drop (i + 1)).take (n - i)) := by
          have e3 : ((spl E (i + 1) ys).take i).length = i := by rw [List.length_take, hl1]; omega
          rw [spl, List.take_append, e3, List.take_of_length_le (by omega), show n + 1 - i = (n - i) + 1 from by omega]
          rfl
        have e4 : (spl E (i + 1) ys).take i = E.take i := by
          have e6 : (E.take (i + 1)).length = i + 1 := by rw [List.length_take, HE.out]; omega
          rw [spl, List.take_append_of_le_length (by omega), List.take_take, Nat.min_eq_left (by omega)]
        have e5 : ((spl E (i + 1) ys).drop (i + 1)).take (n - i) = ys := by
          have e6 : (E.take (i + 1)).length = i + 1 := by rw [List.length_take, HE.out]; omega
          have e7 : (E.take (i + 1)).drop (i + 1) = [] := List.drop_eq_nil_of_le (by omega)
          rw [spl, List.drop_append, e6, e7, Nat.sub_self, List.drop_zero, List.nil_append, ← HYSN.out, List.take_left]
        rw [e2, e4, e5, HET.out, HYSE.out]
      have hnl : (els.take i ++ (y :: els.drop i)).length = n + 1 := by have := HL.out; simp; omega
      have hown := hB2.own hbg hl2 hroom hcm hels
      have hgr : w.grownBy ((w.drew.setRow g (spl E (i + 1) ys).flatten.toArray).setRow g (spl (spl E (i + 1) ys) i [y]).flatten.toArray) (some g) := grown_rows _ _ _ _
      have HFIN : Hid (InsPost w base 84 34 (.slice (some ⟨g, 0, none⟩) n c) (els.take i ++ (y :: els.drop i)) (.returned (.slice (some ⟨g, 0, none⟩) (n + 1) c)) ((w.drew.setRow g (spl E (i + 1) ys).flatten.toArray).setRow g (spl (spl E (i + 1) ys) i [y]).flatten.toArray)) := by
        refine ⟨some ⟨g, 0, none⟩, c, by rw [hnl], by rw [hnl]; omega, by rw [hnl]; exact hown, hgr⟩
      have HC1 := Lib.hid hcp1
      have HC2 := Lib.hid hcp2
      have hov := HOV.out
      clear hcp1 hcp2 hB1 hl1 hB2 hl2 hels hnl hown hgr hBd
      go_enter Tryd.func71, Tryd.ntmps71
      go_wp2
      have hw1 : IntKind.i64.wrap ((i : Int) + 1) = (i : Int) + 1 := by rw [IntKind.wrap_i64]; omega
      have htn : ((i : Int) + 1).toNat = i + 1 := by omega
      go_still_tail 8, (by kernel_rfl)
      clear hw1 htn
      change wpList _ _ _ _ _ w.drew
      refine list_cpy rfl (.tmp 73) (.tmp 76) 24 24 rfl _ _ rfl rfl _ (HC1.out _ _ _ _ _ ?a1) ?_
      case a1 => rw [HYSN.out]; simp only [Nat.min_def]; split <;> omega
      go_wp2_with (with_reducible refine list_cpy rfl (.tmp 80) (.tmp 81) 24 24 rfl _ _ rfl rfl _ (HC2.out _ _ _ ?a2) ?_)
      case a2 => simp only [Nat.min_def]; split <;> omega
      go_wp2
      go_ret
      exact HFIN.out
    · -- a new row
      have m0 : n = c := by omega
      have m1 : (c : Int) < (n : Int) + 1 := by omega
      have k9 : (0 : Int) ≤ (i : Int) + 1 := by omega
      have k10 : (0 : Int) ≤ (n : Int) + 1 := by omega
      have k11 : (i : Int) + 1 ≤ (n : Int) + 1 := by omega
      have k12 : (i : Int) ≤ (n : Int) + 1 := by omega
      have k13 : (i : Int) ≤ (c : Int) := by omega
      have M0 := Lib.hid m0
      clear m0
      obtain ⟨cap, E2, hB2, hl2, hcap, hcapm, ht2, hrun⟩ := run_append_make (P := Tryd.prog) (ty := 24) (kn := .i64) el84 Tryd.underlying3 HB.out i c (n + 1 - i) HE.out k2 (by omega) (by omega) (by omega) (by omega)
      rw [show i + (n + 1 - i) = n + 1 from by omega] at hcap hrun
      have hcast : ((n + 1 - i : Nat) : Int) = (n : Int) + 1 - (i : Int) := by omega
      rw [hcast] at hrun
      have hgW : g < w.heap.size := heap_lt HB.out.at_
      have hgvW : gv < w.heap.size := heap_lt HV.out
      have hB2 : Blk ((w.alloc (.cells E2.flatten.toArray 84)).drew) w.heap.size 84 34 E2 := ⟨hB2.at_, hB2.len⟩
      -- first copy
      have hcp1 := fun (ty : TypeId) (dl dc : Nat) (hm : 1 = Nat.min 1 dl) => run_copy_blk (P := Tryd.prog) (ty := ty) (st := 24) el84 hB2 i dl dc [y] HYL.out HYO.out ⟨gv, 0, none⟩ 1 1 hm (fun j u hu => by
        rw [Addr.add_mid, Nat.zero_add, World.cell?_drew, World.cell?_alloc_lt _ _ _ hgvW, cell_of_row w gv j y.toArray 84 (0, 0) HV.out]
        simpa using hu) (by rw [hl2]; simp; omega)
      have hB3 := hB2.store i [y] HYL.out
      have hl3 : (spl E2 i [y]).length = cap := by rw [spl_len _ _ _ (by rw [hl2]; simp; omega)]; exact hl2
      have hgn : g ≠ w.heap.size := by omega
      -- second copy, behind a draw
      have hB4 : Blk ((((w.alloc (.cells E2.flatten.toArray 84)).drew).setRow w.heap.size (spl E2 i [y]).flatten.toArray).drew) w.heap.size 84 34 (spl E2 i [y]) := ⟨hB3.at_, hB3.len⟩
      have hcp2 := fun (ty : TypeId) (dl dc m c' : Nat) (hm : ys.length = Nat.min m dl) => run_copy_blk (P := Tryd.prog) (ty := ty) (st := 24) el84 hB4 (i + 1) dl dc ys HYSZ.out HYSO.out ⟨g, i * 34, none⟩ m c' hm (fun j u hu => by
        rw [Addr.add_mid]
        show (((w.alloc (.cells E2.flatten.toArray 84)).drew).setRow w.heap.size (spl E2 i [y]).flatten.toArray).cell? _ = _
        rw [cell_setRow_other _ _ _ _ hgn, World.cell?_drew, World.cell?_alloc_lt _ _ _ hgW]
        exact HYSC.out j u hu) (by rw [HYSN.out, hl3]; omega)
      have hB5 := hB4.store (i + 1) ys HYSZ.out
      have hl5 : (spl (spl E2 i [y]) (i + 1) ys).length = cap := by rw [spl_len _ _ _ (by rw [HYSN.out, hl3]; omega)]; exact hl3
      have hels : (spl (spl E2 i [y]) (i + 1) ys).take (n + 1) = els.take i ++ (y :: els.drop i) := by
        have : n + 1 = i + 1 + ys.length := by rw [HYSN.out]; omega
        rw [this, spl_take_end _ _ _ (by rw [hl3]; omega)]
        have e1 : (spl E2 i [y]).take (i + 1) = E2.take i ++ [y] := spl_take_end E2 i [y] (by rw [hl2]; omega)
        rw [e1, ht2, HET.out, HYSE.out, List.append_assoc]
        rfl
      have hnl : (els.take i ++ (y :: els.drop i)).length = n + 1 := by have := HL.out; simp; omega
      have hown := hB5.own hbase hl5 hcap hcapm hels
      obtain ⟨W5, hW5⟩ : ∃ W5, W5 = ((((w.alloc (.cells E2.flatten.toArray 84)).drew).setRow w.heap.size (spl E2 i [y]).flatten.toArray).drew).setRow w.heap.size (spl (spl E2 i [y]) (i + 1) ys).flatten.toArray := ⟨_, rfl⟩
      have hgr : w.grownBy W5 (some g) := by
        rw [hW5]
        refine ⟨rfl, rfl, rfl, by simp, fun k hk _ => ?_⟩
        have hk' : k ≠ w.heap.size := by omega
        rw [setRow_other _ _ _ _ hk']
        show (((w.alloc _).drew).setRow w.heap.size _).heap[k]? = _
        rw [setRow_other _ _ _ _ hk', heap_drew_eq, heap_alloc_eq, if_neg hk']
      rw [← hW5] at hown
      have HFIN : Hid (InsPost w base 84 34 (.slice (some ⟨g, 0, none⟩) n c) (els.take i ++ (y :: els.drop i)) (.returned (.slice (some ⟨w.heap.size, 0, none⟩) (n + 1) cap)) W5) := by
        refine ⟨some ⟨w.heap.size, 0, none⟩, cap, by rw [hnl], by rw [hnl]; omega, by rw [hnl]; exact hown, hgr⟩
      have HRUN := Lib.hid hrun
      have HC1 := Lib.hid hcp1
      have HC2 := Lib.hid hcp2
      have HW5 := Lib.hid hW5
      have m3 : ¬ cap = i := by omega
      have m4 : ¬ cap = i + 1 := by omega
      clear hB2 hl2 ht2 hrun hcp1 hB3 hl3 hB4 hcp2 hB5 hl5 hels hnl hown hgr hW5 hcast
      go_enter Tryd.func71, Tryd.ntmps71
      go_wp2_with (first
        | (at_builtin; (refine list_app rfl (.tmp 34) (.tmp 39) 24 3 rfl _ _ rfl rfl _ HRUN.out ?_))
        | (with_reducible refine list_cpy rfl (.tmp 43) (.tmp 44) 24 24 rfl _ _ rfl rfl _ (HC1.out _ _ _ (by simp only [Nat.min_def]; split <;> omega)) ?_))
      have hw1 : IntKind.i64.wrap ((i : Int) + 1) = (i : Int) + 1 := by rw [IntKind.wrap_i64]; omega
      have htn : ((i : Int) + 1).toNat = i + 1 := by omega
      go_still_tail 8, (by kernel_rfl)
      clear hw1 htn
      change wpList _ _ _ _ _ (((w.alloc (.cells E2.flatten.toArray 84)).drew.setRow w.heap.size (spl E2 i [y]).flatten.toArray).drew)
      refine list_cpy rfl (.tmp 50) (.tmp 53) 24 24 rfl _ _ rfl rfl _ (HC2.out _ _ _ _ _ (by rw [HYSN.out]; simp only [Nat.min_def]; split <;> omega)) ?_
      rw [← HW5.out]
      go_wp2
      go_ret
      exact HFIN.out

end Go.Proofs.YtchnnplcpidkiaaDoor
