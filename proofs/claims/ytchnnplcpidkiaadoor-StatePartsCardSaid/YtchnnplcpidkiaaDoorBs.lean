/-
  The contracts of the comparisons and of slices.BinarySearchFunc at the three element types.
-/
import Derived.Test.YtchnnplcpidkiaaDoorBase
namespace Go.Proofs.YtchnnplcpidkiaaDoor
open Go.RowKit

set_option maxHeartbeats 400000 in
theorem isNaN_str (a : ByteArray) (w : World) : Calls Tryd.prog 62 #[.string a] w fun e w' => e = .returned (.bool false) ∧ w = w' := by
  go_enter Tryd.func62, Tryd.ntmps62
  go_wp2
  go_ret
  simp
set_option maxHeartbeats 400000 in
theorem isNaN_int (a : Int) (w : World) : Calls Tryd.prog 63 #[.int .i64 a] w fun e w' => e = .returned (.bool false) ∧ w = w' := by
  go_enter Tryd.func63, Tryd.ntmps63
  go_wp2
  go_ret
  simp
set_option maxHeartbeats 400000 in
theorem cmpS_any (a b : ByteArray) (w : World) : Calls Tryd.prog 41 #[.string a, .string b] w fun e w' => e = .returned (.int .i64 (cmpS a b)) ∧ w = w' := by
  go_enter Tryd.func41, Tryd.ntmps41
  go_wp2_with (go_at_call 62; refine (isNaN_str _ _).mono ?_; rintro e w' ⟨rfl, rfl⟩)
  all_goals (go_ret; simp_all [cmpS])
set_option maxHeartbeats 400000 in
theorem cmpI_any (a b : Int) (w : World) : Calls Tryd.prog 44 #[.int .i64 a, .int .i64 b] w fun e w' => e = .returned (.int .i64 (cmpI a b)) ∧ w = w' := by
  go_enter Tryd.func44, Tryd.ntmps44
  go_wp2_with (go_at_call 63; refine (isNaN_int _ _).mono ?_; rintro e w' ⟨rfl, rfl⟩)
  all_goals (go_ret; simp [cmpI]; omega)

set_option maxHeartbeats 400000 in
theorem pairCmp_any (k v key : ByteArray) (w : World) :
    Calls Tryd.prog 40 #[.agg #[.string k, .string v], .string key] w fun e w' => e = .returned (.int .i64 (cmpS k key)) ∧ Below w.heap.size w w' := by
  go_enter Tryd.func40, Tryd.ntmps40
  go_wp2_with (go_at_call 41; refine (cmpS_any _ _ _).mono ?_; rintro e w' ⟨rfl, rfl⟩)
  go_ret
  exact ⟨rfl, (Below.refl _ _).alloc (Nat.le_refl _) _⟩
set_option maxHeartbeats 400000 in
theorem repCmp_any (a b c : Int) (v : Value) (key : Int) (w : World) :
    Calls Tryd.prog 43 #[.agg #[.int .i64 a, .int .i64 b, .int .i64 c, v], .int .i64 key] w fun e w' => e = .returned (.int .i64 (cmpI a key)) ∧ Below w.heap.size w w' := by
  go_enter Tryd.func43, Tryd.ntmps43
  go_wp2_with (go_at_call 44; refine (cmpI_any _ _ _).mono ?_; rintro e w' ⟨rfl, rfl⟩)
  go_ret
  exact ⟨rfl, (Below.refl _ _).alloc (Nat.le_refl _) _⟩

instance : Inhabited Pr := ⟨⟨ByteArray.empty, ByteArray.empty⟩⟩
def keyOf (ps : List Pr) (h : Nat) : ByteArray := (ps.getD h default).key
def valOf (ps : List Pr) (h : Nat) : ByteArray := (ps.getD h default).val
def ltP (ps : List Pr) (key : ByteArray) (h : Nat) : Bool := decide (cmpS (keyOf ps h) key < 0)
def findP (ps : List Pr) (key : ByteArray) : Nat := bs (ltP ps key) ps.length
def hasP (ps : List Pr) (key : ByteArray) : Bool := decide (findP ps key < ps.length) && (cmpS (keyOf ps (findP ps key)) key == 0)

theorem Row.pair {w : World} {T : TypeId → Prop} {A : Option Addr} {ps : List Pr} (h : Row w T 2 A (ps.map Pr.cells)) {k : Nat} (hk : k < ps.length) :
    ∃ b off, A = some ⟨b, off, none⟩ ∧ b < w.heap.size ∧ w.cell? ⟨b, off + k * 2, none⟩ = some (.string (keyOf ps k)) ∧ w.cell? ⟨b, off + k * 2 + 1, none⟩ = some (.string (valOf ps k)) := by
  obtain ⟨b, off, hA, hb, hc⟩ := h.at (k := k) (by simpa using hk)
  have e : (ps.map Pr.cells)[k]'(by simpa using hk) = [.string (keyOf ps k), .string (valOf ps k)] := by simp [Pr.cells, keyOf, valOf, List.getD_eq_getElem?_getD, hk]
  rw [e] at hc
  exact ⟨b, off, hA, hb, hc 0 _ rfl, hc 1 _ rfl⟩

set_option maxHeartbeats 400000 in
theorem bsP_any (T : TypeId → Prop) (A : Option Addr) (ps : List Pr) (c : Nat) (key : ByteArray) (w : World) (hr : Row w T 2 A (ps.map Pr.cells)) (hn : ps.length ≤ 1000000) :
    Calls Tryd.prog 39 #[.slice A ps.length c, .string key, .func (.func 40) #[] #[]] w fun e w' => e = .returned (.tuple #[.int .i64 (findP ps key), .bool (hasP ps key)]) ∧ Below w.heap.size w w' := by
  have HR := Lib.hid hr
  clear hr
  go_enter Tryd.func39, Tryd.ntmps39
  go_wp2
  go_loopw [9, 10, 11] (fun i j h wr => ∃ a b : Nat, a ≤ b ∧ b ≤ ps.length ∧ i = .int .i64 a ∧ j = .int .i64 b ∧ Below w.heap.size w wr ∧ Hid (bsRest (ltP ps key) a b = findP ps key))
    (fun i j _ _ => (intOf j).toNat - (intOf i).toNat)
  case atStart => exact ⟨0, ps.length, Nat.zero_le _, Nat.le_refl _, rfl, rfl, Below.refl _ _, rfl⟩
  case round =>
    obtain ⟨a, b, hab, hb, rfl, rfl, hbel, HF⟩ := hrel
    by_cases hlt : a < b
    · have hm : (a + b) / 2 < ps.length := by omega
      obtain ⟨blk, off, hA, hblk, hc0, hc1⟩ := HR.out.pair hm
      subst hA
      have hs := hbel.size
      have hc0' := (hbel.cell (p := ⟨blk, off + (a + b) / 2 * 2, none⟩) hblk).trans hc0
      have hc1' := (hbel.cell (p := ⟨blk, off + (a + b) / 2 * 2 + 1, none⟩) hblk).trans hc1
      clear hc0 hc1
      go_wp2_with (go_at_call 40; refine (pairCmp_any _ _ _ _).mono ?_; rintro e w1 ⟨rfl, hb1⟩)
      · have hc : cmpS (keyOf ps ((a + b) / 2)) key < 0 := by assumption
        go_roundw
        case rel => exact ⟨(a + b) / 2 + 1, b, by omega, hb, by go_num, rfl, hbel.trans (hb1.mono hs), by rw [← bsRest_up _ _ _ hlt (decide_eq_true hc)]; exact HF.out⟩
        case measure => simp [intOf]; omega
      · have hc : 0 ≤ cmpS (keyOf ps ((a + b) / 2)) key := by assumption
        go_roundw
        case rel => exact ⟨a, (a + b) / 2, by omega, by omega, rfl, by go_num, hbel.trans (hb1.mono hs), by rw [← bsRest_down _ _ _ hlt (decide_eq_false (by omega))]; exact HF.out⟩
        case measure => simp [intOf]; omega
    · have hab' : a = b := by omega
      subst hab'
      have hfin : findP ps key = a := by rw [← HF.out, bsRest_done _ _ _ hlt]
      by_cases hlast : a < ps.length
      · obtain ⟨blk, off, hA, hblk, hc0, hc1⟩ := HR.out.pair hlast
        subst hA
        have hs := hbel.size
        have hc0' := (hbel.cell (p := ⟨blk, off + a * 2, none⟩) hblk).trans hc0
        have hc1' := (hbel.cell (p := ⟨blk, off + a * 2 + 1, none⟩) hblk).trans hc1
        have HFIN := Lib.hid hfin
        clear hc0 hc1 hfin
        go_wp2_with (go_at_call 40; refine (pairCmp_any _ _ _ _).mono ?_; rintro e w1 ⟨rfl, hb1⟩)
        go_ret2
        exact ⟨by simp [HFIN.out, hasP, hlast], hbel.trans (hb1.mono hs)⟩
      · have HFIN := Lib.hid hfin
        clear hfin
        go_wp2_with fail
        go_ret2
        exact ⟨by simp [HFIN.out, hasP, hlast], hbel⟩
/-! ### replies -/
def RepC (w : World) (T : TypeId → Prop) (e : List Value) (r : Rp) : Prop :=
  ∃ Av cv, e = [.int .i64 r.client, .int .i64 r.num, .int .i64 r.code, .slice Av r.vals.length cv] ∧ r.vals.length ≤ cv ∧ Row w T 1 Av (r.vals.map strC)
def Reps (w : World) (T Tv : TypeId → Prop) (A : Option Addr) (rs : List Rp) : Prop :=
  ∃ els, els.length = rs.length ∧ Row w T 4 A els ∧ ∀ (k : Nat) (e : List Value) (r : Rp), els[k]? = some e → rs[k]? = some r → RepC w Tv e r
instance : Inhabited Rp := ⟨⟨0, 0, 0, []⟩⟩
def repOf (rs : List Rp) (h : Nat) : Rp := rs.getD h default
def ltR (rs : List Rp) (key : Int) (h : Nat) : Bool := decide (cmpI ((repOf rs h).client) key < 0)
def findR (rs : List Rp) (key : Int) : Nat := bs (ltR rs key) rs.length
def hasR (rs : List Rp) (key : Int) : Bool := decide (findR rs key < rs.length) && (cmpI (repOf rs (findR rs key)).client key == 0)
theorem RepC.below {w w' : World} {T : TypeId → Prop} {e : List Value} {r : Rp} (h : RepC w T e r) (hb : Below w.heap.size w w') : RepC w' T e r := by
  obtain ⟨Av, cv, h1, h2, h3⟩ := h
  exact ⟨Av, cv, h1, h2, h3.below hb⟩
theorem Reps.below {w w' : World} {T Tv : TypeId → Prop} {A : Option Addr} {rs : List Rp} (h : Reps w T Tv A rs) (hb : Below w.heap.size w w') : Reps w' T Tv A rs := by
  obtain ⟨els, h1, h2, h3⟩ := h
  exact ⟨els, h1, h2.below hb, fun k e r he hr => (h3 k e r he hr).below hb⟩
theorem Reps.at {w : World} {T Tv : TypeId → Prop} {A : Option Addr} {rs : List Rp} (h : Reps w T Tv A rs) {k : Nat} (hk : k < rs.length) :
    ∃ b off Av cv, A = some ⟨b, off, none⟩ ∧ b < w.heap.size ∧ w.cell? ⟨b, off + k * 4, none⟩ = some (.int .i64 (repOf rs k).client) ∧ w.cell? ⟨b, off + k * 4 + 1, none⟩ = some (.int .i64 (repOf rs k).num) ∧
      w.cell? ⟨b, off + k * 4 + 2, none⟩ = some (.int .i64 (repOf rs k).code) ∧ w.cell? ⟨b, off + k * 4 + 3, none⟩ = some (.slice Av (repOf rs k).vals.length cv) ∧ (repOf rs k).vals.length ≤ cv ∧
      Row w Tv 1 Av ((repOf rs k).vals.map strC) := by
  obtain ⟨els, h1, h2, h3⟩ := h
  have hk' : k < els.length := by omega
  obtain ⟨b, off, hA, hb, hc⟩ := h2.at hk'
  have hr : rs[k]? = some (repOf rs k) := by simp [repOf, List.getD_eq_getElem?_getD, hk]
  obtain ⟨Av, cv, he, hl, hv⟩ := h3 k els[k] _ (List.getElem?_eq_getElem hk') hr
  rw [he] at hc
  exact ⟨b, off, Av, cv, hA, hb, hc 0 _ rfl, hc 1 _ rfl, hc 2 _ rfl, hc 3 _ rfl, hl, hv⟩

set_option maxHeartbeats 400000 in
theorem bsR_any (T Tv : TypeId → Prop) (A : Option Addr) (rs : List Rp) (c : Nat) (key : Int) (w : World) (hr : Reps w T Tv A rs) (hn : rs.length ≤ 1000000) :
    Calls Tryd.prog 42 #[.slice A rs.length c, .int .i64 key, .func (.func 43) #[] #[]] w fun e w' => e = .returned (.tuple #[.int .i64 (findR rs key), .bool (hasR rs key)]) ∧ Below w.heap.size w w' := by
  have HR := Lib.hid hr
  clear hr
  go_enter Tryd.func42, Tryd.ntmps42
  go_wp2
  go_loopw [9, 10, 11] (fun i j h wr => ∃ a b : Nat, a ≤ b ∧ b ≤ rs.length ∧ i = .int .i64 a ∧ j = .int .i64 b ∧ Below w.heap.size w wr ∧ Hid (bsRest (ltR rs key) a b = findR rs key))
    (fun i j _ _ => (intOf j).toNat - (intOf i).toNat)
  case atStart => exact ⟨0, rs.length, Nat.zero_le _, Nat.le_refl _, rfl, rfl, Below.refl _ _, rfl⟩
  case round =>
    obtain ⟨a, b, hab, hb, rfl, rfl, hbel, HF⟩ := hrel
    by_cases hlt : a < b
    · have hm : (a + b) / 2 < rs.length := by omega
      obtain ⟨blk, off, Av, cv, hA, hblk, hc0, hc1, hc2, hc3, _, _⟩ := HR.out.at hm
      subst hA
      have hs := hbel.size
      have hc0' := (hbel.cell (p := ⟨blk, off + (a + b) / 2 * 4, none⟩) hblk).trans hc0
      have hc1' := (hbel.cell (p := ⟨blk, off + (a + b) / 2 * 4 + 1, none⟩) hblk).trans hc1
      have hc2' := (hbel.cell (p := ⟨blk, off + (a + b) / 2 * 4 + 2, none⟩) hblk).trans hc2
      have hc3' := (hbel.cell (p := ⟨blk, off + (a + b) / 2 * 4 + 3, none⟩) hblk).trans hc3
      clear hc0 hc1 hc2 hc3
      go_wp2_with (go_at_call 43; refine (repCmp_any _ _ _ _ _ _).mono ?_; rintro e w1 ⟨rfl, hb1⟩)
      · have hc : cmpI (repOf rs ((a + b) / 2)).client key < 0 := by assumption
        go_roundw
        case rel => exact ⟨(a + b) / 2 + 1, b, by omega, hb, by go_num, rfl, hbel.trans (hb1.mono hs), by rw [← bsRest_up _ _ _ hlt (decide_eq_true hc)]; exact HF.out⟩
        case measure => simp [intOf]; omega
      · have hc : 0 ≤ cmpI (repOf rs ((a + b) / 2)).client key := by assumption
        go_roundw
        case rel => exact ⟨a, (a + b) / 2, by omega, by omega, rfl, by go_num, hbel.trans (hb1.mono hs), by rw [← bsRest_down _ _ _ hlt (decide_eq_false (by omega))]; exact HF.out⟩
        case measure => simp [intOf]; omega
    · have hab' : a = b := by omega
      subst hab'
      have hfin : findR rs key = a := by rw [← HF.out, bsRest_done _ _ _ hlt]
      by_cases hlast : a < rs.length
      · obtain ⟨blk, off, Av, cv, hA, hblk, hc0, hc1, hc2, hc3, _, _⟩ := HR.out.at hlast
        subst hA
        have hs := hbel.size
        have hc0' := (hbel.cell (p := ⟨blk, off + a * 4, none⟩) hblk).trans hc0
        have hc1' := (hbel.cell (p := ⟨blk, off + a * 4 + 1, none⟩) hblk).trans hc1
        have hc2' := (hbel.cell (p := ⟨blk, off + a * 4 + 2, none⟩) hblk).trans hc2
        have hc3' := (hbel.cell (p := ⟨blk, off + a * 4 + 3, none⟩) hblk).trans hc3
        have HFIN := Lib.hid hfin
        clear hc0 hc1 hc2 hc3 hfin
        go_wp2_with (go_at_call 43; refine (repCmp_any _ _ _ _ _ _).mono ?_; rintro e w1 ⟨rfl, hb1⟩)
        go_ret2
        exact ⟨by simp [HFIN.out, hasR, hlast], hbel.trans (hb1.mono hs)⟩
      · have HFIN := Lib.hid hfin
        clear hfin
        go_wp2_with fail
        go_ret2
        exact ⟨by simp [HFIN.out, hasR, hlast], hbel⟩

/-! ### the registry's own searches -/
/-- A registry as a value. -/
def StV (w : World) (v : Value) (s : St) : Prop :=
  ∃ Ap cp Ar cr Am cm, v = .agg #[.slice Ap s.pairs.length cp, .slice Ar s.reps.length cr, .int .i64 s.epoch, .slice Am s.mbs.length cm] ∧ s.pairs.length ≤ cp ∧ s.reps.length ≤ cr ∧ s.mbs.length ≤ cm ∧
    Row w (fun _ => True) 2 Ap (s.pairs.map Pr.cells) ∧ Reps w (fun _ => True) (fun _ => True) Ar s.reps ∧ Row w (fun _ => True) 34 Am (s.mbs.map Mb.cells)

set_option maxHeartbeats 400000 in
theorem pair_any (T : TypeId → Prop) (A : Option Addr) (ps : List Pr) (c : Nat) (v1 v2 v3 : Value) (key : ByteArray) (w : World) (hr : Row w T 2 A (ps.map Pr.cells)) (hn : ps.length ≤ 1000000) :
    Calls Tryd.prog 28 #[.agg #[.slice A ps.length c, v1, v2, v3], .string key] w fun e w' => e = .returned (.tuple #[.int .i64 (findP ps key), .bool (hasP ps key)]) ∧ Below w.heap.size w w' := by
  have HR := Lib.hid hr
  clear hr
  go_enter Tryd.func28, Tryd.ntmps28
  go_wp2_with (go_at_call 39; refine (bsP_any T _ _ _ _ _ (HR.out.below ((Below.refl _ _).alloc (Nat.le_refl _) _)) hn).mono ?_; rintro e w1 ⟨rfl, hb1⟩)
  go_ret2
  exact ⟨rfl, ((Below.refl _ _).alloc (Nat.le_refl _) _).trans (hb1.mono (by simp))⟩
set_option maxHeartbeats 400000 in
theorem last_any (T Tv : TypeId → Prop) (A : Option Addr) (rs : List Rp) (c : Nat) (v1 v2 v3 : Value) (key : Int) (w : World) (hr : Reps w T Tv A rs) (hn : rs.length ≤ 1000000) :
    Calls Tryd.prog 29 #[.agg #[v1, .slice A rs.length c, v2, v3], .int .i64 key] w fun e w' => e = .returned (.tuple #[.int .i64 (findR rs key), .bool (hasR rs key)]) ∧ Below w.heap.size w w' := by
  have HR := Lib.hid hr
  clear hr
  go_enter Tryd.func29, Tryd.ntmps29
  go_wp2_with (go_at_call 42; refine (bsR_any T Tv _ _ _ _ _ (HR.out.below ((Below.refl _ _).alloc (Nat.le_refl _) _)) hn).mono ?_; rintro e w1 ⟨rfl, hb1⟩)
  go_ret2
  exact ⟨rfl, ((Below.refl _ _).alloc (Nat.le_refl _) _).trans (hb1.mono (by simp))⟩

end Go.Proofs.YtchnnplcpidkiaaDoor
