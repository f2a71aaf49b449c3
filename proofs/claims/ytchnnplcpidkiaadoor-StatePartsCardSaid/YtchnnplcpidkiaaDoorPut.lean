/-
  The contract of state.put.
-/
import Derived.Test.YtchnnplcpidkiaaDoorSet
import Derived.Test.YtchnnplcpidkiaaDoorIns
import Derived.Deep.WholeRow
namespace Go.Proofs.YtchnnplcpidkiaaDoor
open Go.RowKit

def setP (ps : List Pr) (key val : ByteArray) : List Pr := ps.set (findP ps key) ⟨keyOf ps (findP ps key), val⟩
def insP (ps : List Pr) (key val : ByteArray) : List Pr := ps.take (findP ps key) ++ ⟨key, val⟩ :: ps.drop (findP ps key)
def putP (ps : List Pr) (key val : ByteArray) : List Pr := if hasP ps key then setP ps key val else if 256 ≤ ps.length then ps else insP ps key val
def putC (ps : List Pr) (key : ByteArray) : Int := if hasP ps key then 0 else if 256 ≤ ps.length then 11 else 0

/-- The old blocks stay, but the state's own and those of pairs. -/
def Kept (w w' : World) (gs : Nat) : Prop := ∀ (k : Nat) (o : Obj), w.heap[k]? = some o → k ≠ gs → (∀ (cs : Array Value) (fz : Nat × Nat), o ≠ Obj.cells cs 42 fz) → w'.heap[k]? = some o

def PutPost (w : World) (base gs : Nat) (Ar : Option Addr) (nr cr : Nat) (ep : Int) (Am : Option Addr) (nm cm : Nat) (ps : List Pr) (code : Int) (E : Ending) (w' : World) : Prop :=
  E = .returned (.int .i64 code) ∧ ∃ A c, w'.heap[gs]? = some (.cells #[.slice A ps.length c, .slice Ar nr cr, .int .i64 ep, .slice Am nm cm] 28 (0, 0)) ∧ ps.length ≤ c ∧ Own w' base 42 2 (.slice A ps.length c) (ps.map Pr.cells) ∧ Below base w w' ∧ Kept w w' gs

theorem findP_lt {ps : List Pr} {key : ByteArray} (h : hasP ps key = true) : findP ps key < ps.length := by
  simp only [hasP, Bool.and_eq_true, decide_eq_true_eq] at h
  exact h.1

theorem pairs_at {ps : List Pr} {i : Nat} (h : i < ps.length) : (ps.map Pr.cells)[i]? = some [.string (keyOf ps i), .string (valOf ps i)] := by
  simp [keyOf, valOf, List.getD_eq_getElem?_getD, h, Pr.cells]

set_option maxHeartbeats 400000 in
set_option maxRecDepth 100000 in
theorem put_any (base gs : Nat) (A : Option Addr) (n c : Nat) (Ar : Option Addr) (nr cr : Nat) (ep : Int) (Am : Option Addr) (nm cm : Nat) (ps : List Pr) (key val : ByteArray) (w : World)
    (hn : ps.length = n) (hnc : n ≤ c) (hk : w.heap[gs]? = some (.cells #[.slice A n c, .slice Ar nr cr, .int .i64 ep, .slice Am nm cm] 28 (0, 0))) (ho : Own w base 42 2 (.slice A n c) (ps.map Pr.cells)) (hb : n ≤ 1000000) (hg : base ≤ gs) (hbw : base ≤ w.heap.size) :
    Calls Tryd.prog 47 #[.pointer (some ⟨gs, 0, none⟩), .string key, .string val] w (PutPost w base gs Ar nr cr ep Am nm cm (putP ps key val) (putC ps key)) := by
  subst hn
  have HO := Lib.hid ho
  have HK := Lib.hid hk
  clear ho hk
  obtain ⟨s0, s1, s2, s3, s4⟩ := four HK.out
  go_enter Tryd.func47, Tryd.ntmps47
  go_wp2_with fail
  refine (pair_any _ _ ps _ _ _ _ key _ HO.out.rowOf hb).mono ?_
  rintro e w1 ⟨rfl, hb1⟩
  clear s0 s1 s2 s3 s4
  have HK1 := Lib.hid (blk_later hb1 HK.out)
  have HO1 := Lib.hid (HO.out.below hb1)
  have HB1 := Lib.hid hb1
  have hz1 : gs < w1.heap.size := heap_lt HK1.out
  clear hb1
  obtain ⟨s0, s1, s2, s3, s4⟩ := four HK1.out
  cases hh : hasP ps key
  · by_cases hl : 256 ≤ ps.length
    · have hl1 : (256 : Int) ≤ ps.length := by omega
      have hh := Lib.hid hh
      go_wp2_with fail
      go_ret
      rw [putP, putC, hh.out]
      simp only [Bool.false_eq_true, if_false, if_pos hl]
      exact ⟨rfl, A, c, HK1.out, hnc, HO1.out, HB1.out.mono hbw, fun k o ho _ _ => blk_later HB1.out ho⟩
    · have hl1 : ¬ (256 : Int) ≤ ps.length := by omega
      have hh := Lib.hid hh
      go_wp2_with fail
      have hcc : (ps.map Pr.cells).take (findP ps key) ++ ([.string key, .string val] :: (ps.map Pr.cells).drop (findP ps key)) = (insP ps key val).map Pr.cells := by
        rw [insP, List.map_append, List.map_cons, List.map_take, List.map_drop]; rfl
      refine (insP_any base A ps.length c (findP ps key) w1.heap.size (ps.map Pr.cells) [.string key, .string val] _ _ (HO1.out.below ((Below.refl _ _).alloc (Nat.le_refl _) _)) pr_one (bs_le _ _) hb
        rfl (by intro u hu; simp at hu; rcases hu with rfl | rfl <;> rfl) rfl (heap_alloc_last _ _) (fun e => Nat.lt_irrefl _ (HO1.out.base_le _ e).2) (by rw [World.size_alloc]; have := HB1.out.size; omega)).mono ?_
      rintro e w2 ⟨A2, c2, rfl, hc2, ho2, hg2⟩
      rw [hcc, List.length_map] at hc2 ho2
      rw [hcc, List.length_map]
      have HO2 := Lib.hid ho2
      have hkeep : ∀ (k : Nat) (o : Obj), w1.heap[k]? = some o → (∀ (cs : Array Value) (fz : Nat × Nat), o ≠ Obj.cells cs 42 fz) → w2.heap[k]? = some o := fun k o hk hne =>
        blk_grown hg2 (at_up hk _) fun e => by
          obtain ⟨cells, hc⟩ := HO1.out.typed k e
          rw [hk] at hc
          cases hc
          exact hne _ _ rfl
      have HKEEP := Lib.hid hkeep
      have HK2 := Lib.hid (hkeep _ _ HK1.out (by intro cs fz h; cases h))
      have HB2 := Lib.hid (show Below base w w2 from ((HB1.out.mono hbw).alloc (by have := HB1.out.size; omega) _).grown hg2 (by rw [World.size_alloc]; have := HB1.out.size; omega) (fun k hk => (HO1.out.base_le k hk).1))
      clear s0 s1 s2 s3 s4 hkeep ho2 hg2
      obtain ⟨s0, s1, s2, s3, s4⟩ := four HK2.out
      go_wp2_with fail
      go_ret
      rw [putP, putC, hh.out]
      simp only [Bool.false_eq_true, if_false, if_neg hl]
      refine ⟨rfl, A2, c2, blk_set HK2.out 0 _, hc2, HO2.out.set HK2.out (by decide) _ _, HB2.out.setCell (p := ⟨gs, 0, none⟩) hg _, fun k o hko hne hty => ?_⟩
      exact (Below.heap_setCell w2 ⟨gs, 0, none⟩ _ k hne).trans (HKEEP.out k o (blk_later HB1.out hko) hty)
  · have hlt := findP_lt hh
    have hh := Lib.hid hh
    obtain ⟨g, cs, hA, hgb, hbg, hf, hc, hset⟩ := HO1.out.spot (pairs_at hlt)
    subst hA
    have c1 := hc 1 _ rfl
    have hst := Lib.hid (hset 1 (.string val) (by decide))
    have HGB := Lib.hid hgb
    clear hset hc hgb
    go_wp2_with fail
    go_ret
    rw [putP, putC, hh.out]
    simp only [if_true]
    have hne : gs ≠ g := fun e => by
      have h1 := HK1.out
      rw [e, HGB.out] at h1
      cases h1
    have hes : (ps.map Pr.cells).set (findP ps key) [.string (keyOf ps (findP ps key)), .string val] = (setP ps key val).map Pr.cells := by
      rw [setP, List.map_set]; rfl
    have hls : (setP ps key val).length = ps.length := by rw [setP, List.length_set]
    have hst' := hst.out
    rw [show ([Value.string (keyOf ps (findP ps key)), .string (valOf ps (findP ps key))].set 1 (.string val)) = [.string (keyOf ps (findP ps key)), .string val] from rfl, hes] at hst'
    refine ⟨rfl, some ⟨g, 0, none⟩, c, ?_, by rw [hls]; exact hnc, by rw [hls]; exact hst', (HB1.out.mono hbw).setCell (p := ⟨g, _, none⟩) hbg _, fun k o hko hne hty => ?_⟩
    · rw [hls]
      exact (Below.heap_setCell w1 ⟨g, _, none⟩ _ gs hne).trans HK1.out
    · refine (Below.heap_setCell w1 ⟨g, _, none⟩ _ k (fun e => ?_)).trans (blk_later HB1.out hko)
      have h1 := blk_later HB1.out hko
      have e' : k = g := e
      rw [e', HGB.out] at h1
      cases h1
      exact hty _ _ rfl
end Go.Proofs.YtchnnplcpidkiaaDoor
