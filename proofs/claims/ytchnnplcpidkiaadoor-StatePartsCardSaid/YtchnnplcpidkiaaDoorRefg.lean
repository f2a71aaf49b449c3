/-
  The contracts of the laws' test of greatness, and of the laws' configuration; state.Apply by the bounds.
-/
import Derived.Test.YtchnnplcpidkiaaDoorReff
namespace Go.Proofs.YtchnnplcpidkiaaDoor
open Go.RowKit

instance : Inhabited Req := ⟨⟨0, 0, 0, ByteArray.empty, ByteArray.empty, ByteArray.empty, 0, 0, 0, Vector.replicate 32 0, 0⟩⟩
def reqOf (qs : List Req) (k : Nat) : Req := qs.getD k default
theorem req_at {qs : List Req} {k : Nat} (hk : k < qs.length) : (qs.map Req.cells)[k]? = some (reqOf qs k).cells := by
  simp [reqOf, List.getD_eq_getElem?_getD, hk]
theorem Req.ones (q : Req) : ∀ v ∈ q.arr.toList, v.oneCell' = true := fun v hv => by
  simp only [Req.arrL, Req.cells, List.mem_cons, List.mem_append, List.mem_map, List.not_mem_nil, or_false] at hv
  rcases hv with rfl | rfl | rfl | rfl | rfl | rfl | rfl | rfl | rfl | ⟨x, _, rfl⟩ | rfl <;> rfl

theorem wrap_of {n : Int} (h0 : -9223372036854775808 ≤ n) (h1 : n ≤ 9223372036854775807) : wrap64 n = n := by simp only [wrap64]; omega
/-- Texts as long as texts can be. -/
def RZ (qs : List Req) : Prop := ∀ k, k < qs.length → (reqOf qs k).key.size ≤ 1152921504606846976 ∧ (reqOf qs k).val.size ≤ 1152921504606846976 ∧ (reqOf qs k).old.size ≤ 1152921504606846976
structure GL (s : St) (qs : List Req) : Prop where
  gb : GB 16384 s
  rises : risesS s = true
  len : qs.length ≤ 60
def GreatLPost (w : World) (s : St) (qs : List Req) (E : Ending) (w' : World) : Prop := ∃ b, E = .returned (.bool b) ∧ (b = false → GL s qs) ∧ Below w.heap.size w w'

set_option maxHeartbeats 1000000 in
set_option maxRecDepth 100000 in
theorem great_any (Ap Ar Am : Option Addr) (np cp nr cr nm cm : Nat) (ep : Int) (ps : List Pr) (rs : List Rp) (ms : List Mb) (T : TypeId → Prop) (A : Option Addr) (n c : Nat) (qs : List Req) (w : World)
    (lp : ps.length = np) (lr : rs.length = nr) (lm : ms.length = nm) (h : SV w Ap Ar Am ⟨ps, rs, ep, ms⟩) (hz : SZ ⟨ps, rs, ep, ms⟩) (hn : qs.length = n) (hr : Row w T 42 A (qs.map Req.cells)) (hrz : RZ qs) :
    Calls Tryd.prog 9 #[.agg #[.slice Ap np cp, .slice Ar nr cr, .int .i64 ep, .slice Am nm cm], .slice A n c] w (GreatLPost w ⟨ps, rs, ep, ms⟩ qs) := by
  have HA := Lib.hid h
  have HZ := Lib.hid hz
  have LP := Lib.hid lp
  have LR := Lib.hid lr
  have LM := Lib.hid lm
  have HN := Lib.hid hn
  have HR := Lib.hid hr
  have HRZ := Lib.hid hrz
  clear h hz lp lr lm hn hr hrz
  have HB0 := Lib.hid (show Below w.heap.size w (w.alloc (.cells #[.slice Ap np cp, .slice Ar nr cr, .int .i64 ep, .slice Am nm cm] 28)) from (Below.refl _ _).alloc (Nat.le_refl _) _)
  have kA := heap_alloc_last w (.cells #[.slice Ap np cp, .slice Ar nr cr, .int .i64 ep, .slice Am nm cm] 28)
  go_enter Tryd.func9, Tryd.ntmps9
  go_wp2_with fail
  refine (Great_any Ap Ar Am np cp nr cr nm cm ep 16384 ps rs ms _ LP.out LR.out LM.out (HA.out.below HB0.out) HZ.out (by decide) (by decide)).mono ?_
  rintro e w1 ⟨b, rfl, hb, hb1⟩
  have HB1 := Lib.hid (HB0.out.trans (hb1.mono (by rw [World.size_alloc]; omega)))
  have KA := Lib.hid (blk_later hb1 kA)
  have HGB := Lib.hid hb
  clear hb hb1 kA HB0
  have hz0 : w.heap.size < w1.heap.size := heap_lt KA.out
  obtain ⟨a0, a1, a2, a3, a4⟩ := four KA.out
  cases b
  case true =>
    go_wp2_with fail
    go_ret
    exact ⟨true, rfl, (fun h => by cases h), HB1.out⟩
  have HG := Lib.hid (HGB.out rfl)
  clear HGB
  have gp : np ≤ 1000000 := by rw [← LP.out]; have := HG.out.p; exact Nat.le_trans this (by decide)
  have gr : nr ≤ 1000000 := by rw [← LR.out]; have := HG.out.r; exact Nat.le_trans this (by decide)
  go_wp2_with fail
  refine (Rises_any Ap Ar np cp nr cr (.int .i64 ep) (.slice Am nm cm) ps rs _ _ _ _ LP.out LR.out (HA.out.p.below HB1.out) (HA.out.r.below HB1.out) gp gr).mono ?_
  rintro e w2 ⟨rfl, hb2⟩
  have HB2 := Lib.hid (HB1.out.trans (hb2.mono (by omega)))
  clear hb2
  cases hrs : (risesP ps && risesR rs)
  · go_wp2_with fail
    go_ret
    exact ⟨true, rfl, (fun h => by cases h), HB2.out⟩
  have HRS := Lib.hid hrs
  clear hrs
  by_cases hl : n ≤ 60
  case neg =>
    have hl' : 60 < (n : Int) := by omega
    go_wp2_with fail
    go_ret
    exact ⟨true, rfl, (fun h => by cases h), HB2.out⟩
  have hl' : ¬ 60 < (n : Int) := by omega
  go_wp2_with fail
  clear a0 a1 a2 a3 a4 hz0
  go_loopw [21] (fun i wr => ∃ k : Nat, k ≤ n ∧ i = .int .i64 k ∧ Below w2.heap.size w2 wr)
    (fun i _ => n - (intOf i).toNat)
  case atStart => exact ⟨0, Nat.zero_le _, rfl, Below.refl _ _⟩
  case round =>
    obtain ⟨k, hk, rfl, hbel⟩ := hrel
    have hs := hbel.size
    by_cases hlt : k < n
    · obtain ⟨g, off, hA, hg, c0⟩ := (HR.out.below (HB2.out.trans (hbel.mono HB2.out.size))).range (req_at (k := k) (by rw [HN.out]; exact hlt))
      subst hA
      have HC := Lib.hid c0
      clear c0
      have hki : (k : Int) < n := by omega
      obtain ⟨z1, z2, z3⟩ := HRZ.out k (by rw [HN.out]; exact hlt)
      obtain ⟨q, hq⟩ : ∃ q, q = reqOf qs k := ⟨_, rfl⟩
      rw [← hq] at HC z1 z2 z3
      clear hq
      by_cases hc : (q.key.size : Int) + q.val.size + q.old.size ≤ 8192
      · go_wp2_with (first
          | (with_reducible refine loadM rfl 56 _ rfl g (off + k * 42) rfl 42 _ (Req.len _) _ HC.out Tryd.underlying56 rfl size56 q.arr rfl ?_)
          | (with_reducible refine storeNew rfl 56 _ _ rfl rfl q.arr rfl 56 _ 42 (Req.arrSize _) size56 rfl (Req.ones _) ?_))
        go_roundw
        case rel => exact ⟨k + 1, by omega, by go_num, hbel.alloc hs _⟩
        case measure => simp only [intOf]; omega
      · go_wp2_with (first
          | (with_reducible refine loadM rfl 56 _ rfl g (off + k * 42) rfl 42 _ (Req.len _) _ HC.out Tryd.underlying56 rfl size56 q.arr rfl ?_)
          | (with_reducible refine storeNew rfl 56 _ _ rfl rfl q.arr rfl 56 _ 42 (Req.arrSize _) size56 rfl (Req.ones _) ?_))
        go_ret
        exact ⟨true, rfl, (fun h => by cases h), HB2.out.trans ((hbel.alloc hs _).mono HB2.out.size)⟩
    · obtain rfl : k = n := by omega
      go_wp2_with fail
      go_ret
      exact ⟨false, rfl, fun _ => ⟨HG.out, HRS.out, by rw [HN.out]; exact hl⟩, HB2.out.trans (hbel.mono HB2.out.size)⟩

theorem GB.bd {m : Int} {s : St} (h : GB m s) (he : -9223372036854775808 ≤ s.epoch ∧ s.epoch ≤ 9223372036854775807) (hi : ∀ m ∈ s.mbs, -9223372036854775808 ≤ m.id ∧ m.id ≤ 9223372036854775807) : BdS 100 s :=
  ⟨h.p, h.r, h.m, fun r hr => by
    obtain ⟨k, hk, rfl⟩ := List.getElem_of_mem hr
    have := h.v k hk
    have e : repOf s.reps k = s.reps[k] := by simp [repOf, List.getD_eq_getElem?_getD, hk]
    rw [e] at this
    exact this, he, hi⟩
theorem Apply_sv (Ap Ar Am : Option Addr) (cp cr cm n : Nat) (s : St) (q : Req) (w : World) (h : SV w Ap Ar Am s) (hb : BdS n s) (hn : n ≤ 1000000) (ht : Tab w.heap.size w) :
    Calls Tryd.prog 18 #[SV.val Ap cp Ar cr Am cm s, .agg q.arr] w (ApplyPost w (applyS s q) (applyR s q)) :=
  Apply_any Ap Ar Am cp cr cm s q w _ _ _ _ h.p h.r h.m (Nat.le_trans hb.p (by decide)) (Nat.le_trans hb.r hn) (Nat.le_trans hb.m (by decide)) hb.vk ht hb.e hb.ik
end Go.Proofs.YtchnnplcpidkiaaDoor
