/-
  The contract of state.All.
-/
import Derived.Test.YtchnnplcpidkiaaDoorAll0
namespace Go.Proofs.YtchnnplcpidkiaaDoor
open Go.RowKit

def allS (s : St) (qs : List Req) : St := qs.foldl applyS s
def allR : St → List Req → List Rp
  | _, [] => []
  | s, q :: qs => applyR s q :: allR (applyS s q) qs
theorem allR_len (s : St) (qs : List Req) : (allR s qs).length = qs.length := by
  induction qs generalizing s with
  | nil => rfl
  | cons q qs ih => simp [allR, ih]
theorem allS_snoc (s : St) (qs : List Req) (q : Req) : allS s (qs ++ [q]) = applyS (allS s qs) q := by simp [allS]
theorem allR_snoc (s : St) (qs : List Req) (q : Req) : allR s (qs ++ [q]) = allR s qs ++ [applyR (allS s qs) q] := by
  induction qs generalizing s with
  | nil => rfl
  | cons p qs ih => simp only [List.cons_append, allR, ih]; rfl
theorem allS_bd {n : Nat} {s : St} (h : BdS n s) (qs : List Req) : BdS (n + qs.length) (allS s qs) := by
  induction qs generalizing s n with
  | nil => exact h
  | cons q qs ih =>
    have := ih (h.step (q := q))
    rw [List.length_cons, show n + (qs.length + 1) = n + 1 + qs.length from by omega]
    exact this
theorem take_snoc {qs : List Req} {k : Nat} (hk : k < qs.length) : qs.take (k + 1) = qs.take k ++ [reqOf qs k] := by
  rw [List.take_add_one, List.getElem?_eq_getElem hk, Option.toList_some]
  simp [reqOf, List.getD_eq_getElem?_getD, hk]

theorem OwnSt.grown {w w' : World} {base : Nat} {v : Value} {s : St} (h : OwnSt w base v s) {row : Option Nat} (hg : w.grownBy w' row) (hr : ∀ k, row = some k → k < base ∧ ∃ cs, w.heap[k]? = some (Obj.cells cs 36 (0, 0))) : OwnSt w' base v s := by
  obtain ⟨Ap, cp, Ar, cr, Am, cm, rfl, c1, c2, c3, o1, ⟨els, oe, hl, hrc⟩, o3⟩ := h
  have hk : ∀ k, base ≤ k → k < w.heap.size → w'.heap[k]? = w.heap[k]? := fun k hb hs => hg.block k hs fun e => by have := (hr k e.symm).1; omega
  refine ⟨Ap, cp, Ar, cr, Am, cm, rfl, c1, c2, c3, o1.keep fun k e => hk k (o1.base_le k e).1 (o1.base_le k e).2, ⟨els, oe.keep fun k e => hk k (oe.base_le k e).1 (oe.base_le k e).2, hl, fun k e r he hr' => (hrc k e r he hr').grown hg fun k cs t fz e hb ht => ?_⟩, o3.keep fun k e => hk k (o3.base_le k e).1 (o3.base_le k e).2⟩
  obtain ⟨_, cs', hc⟩ := hr k e
  rw [hb] at hc
  cases hc
  cases ht
theorem OwnSt.toSV {w : World} {base : Nat} {Ap Ar Am : Option Addr} {cp cr cm : Nat} {s : St} (h : OwnSt w base (SV.val Ap cp Ar cr Am cm s) s) : SV w Ap Ar Am s := by
  obtain ⟨Ap', cp', Ar', cr', Am', cm', hv, hs⟩ := h.sv
  simp only [SV.val, Value.agg.injEq, Array.mk.injEq, List.cons.injEq, Value.slice.injEq] at hv
  obtain ⟨⟨rfl, _⟩, ⟨rfl, _⟩, _, ⟨rfl, _⟩, _⟩ := hv
  exact hs
theorem OwnSt.below {w w' : World} {base : Nat} {v : Value} {s : St} (h : OwnSt w base v s) (hb : Below w.heap.size w w') : OwnSt w' base v s := by
  obtain ⟨Ap, cp, Ar, cr, Am, cm, rfl, c1, c2, c3, o1, o2, o3⟩ := h
  exact ⟨Ap, cp, Ar, cr, Am, cm, rfl, c1, c2, c3, o1.below hb, o2.below hb, o3.below hb⟩
theorem OwnSt.lower {w : World} {base base' : Nat} {v : Value} {s : St} (h : OwnSt w base v s) (hb : base' ≤ base) : OwnSt w base' v s := by
  obtain ⟨Ap, cp, Ar, cr, Am, cm, rfl, c1, c2, c3, o1, o2, o3⟩ := h
  exact ⟨Ap, cp, Ar, cr, Am, cm, rfl, c1, c2, c3, o1.lower hb, o2.lower hb, o3.lower hb⟩
theorem OwnSt.other {w w' : World} {base : Nat} {v : Value} {s : St} (h : OwnSt w base v s) {g : Nat} {cs : Array Value} {fz : Nat × Nat} (hb : w.heap[g]? = some (.cells cs 28 fz)) (hk : ∀ k, k ≠ g → w'.heap[k]? = w.heap[k]?) : OwnSt w' base v s := by
  obtain ⟨Ap, cp, Ar, cr, Am, cm, rfl, c1, c2, c3, o1, o2, o3⟩ := h
  exact ⟨Ap, cp, Ar, cr, Am, cm, rfl, c1, c2, c3, o1.other hb (by decide) hk, o2.other hb (by decide) (by decide) hk, o3.other hb (by decide) hk⟩
structure AllI (w wr : World) (G : Nat) (Ap : Option Addr) (cp : Nat) (Ar : Option Addr) (cr : Nat) (Am : Option Addr) (cm : Nat) (A : Option Addr) (k c : Nat) (st : St) (rs : List Rp) : Prop where
  res : wr.heap[w.heap.size + 1]? = some (.cells #[.slice none 0 0, .slice none 0 0, .int .i64 0, .slice none 0 0] 28 (0, 0))
  out : wr.heap[G]? = some (.cells #[.slice Ap st.pairs.length cp, .slice Ar st.reps.length cr, .int .i64 st.epoch, .slice Am st.mbs.length cm] 28 (0, 0))
  sv : OwnSt wr w.heap.size (SV.val Ap cp Ar cr Am cm st) st
  own : OwnReps wr w.heap.size (.slice A k c) rs
  len : rs.length = k
  bel : Below w.heap.size w wr
def AllPost (w : World) (s' : St) (rs : List Rp) (E : Ending) (w' : World) : Prop :=
  ∃ Ap cp Ar cr Am cm A c, E = .returned (.tuple #[SV.val Ap cp Ar cr Am cm s', .slice A rs.length c]) ∧ SV w' Ap Ar Am s' ∧ Reps w' (fun _ => True) (fun _ => True) A rs ∧ Below w.heap.size w w'

set_option maxHeartbeats 2000000 in
set_option maxRecDepth 100000 in
theorem All_any (Ap Ar Am : Option Addr) (cp cr cm m : Nat) (s : St) (T : TypeId → Prop) (A : Option Addr) (n c : Nat) (qs : List Req) (w : World)
    (h : SV w Ap Ar Am s) (hb : BdS m s) (hm : m + n ≤ 1000) (hn : qs.length = n) (hr : Row w T 42 A (qs.map Req.cells)) (ht : Tab w.heap.size w) :
    Calls Tryd.prog 21 #[SV.val Ap cp Ar cr Am cm s, .slice A n c] w (AllPost w (allS s qs) (allR s qs)) := by
  have HA := Lib.hid h
  have HBD := Lib.hid hb
  have HN := Lib.hid hn
  have HR := Lib.hid hr
  have HT := Lib.hid ht
  clear h hb hn hr ht
  have hb0 := Lib.hid (show Below w.heap.size w ((w.alloc (.cells #[.slice Ap s.pairs.length cp, .slice Ar s.reps.length cr, .int .i64 s.epoch, .slice Am s.mbs.length cm] 28)).alloc (.cells #[.slice none 0 0, .slice none 0 0, .int .i64 0, .slice none 0 0] 28)) from ((Below.refl _ _).alloc (Nat.le_refl _) _).alloc (by rw [World.size_alloc]; omega) _)
  have kR0 := at2_1 w (.cells #[.slice Ap s.pairs.length cp, .slice Ar s.reps.length cr, .int .i64 s.epoch, .slice Am s.mbs.length cm] 28) (.cells #[.slice none 0 0, .slice none 0 0, .int .i64 0, .slice none 0 0] 28)
  go_enter Tryd.func21, Tryd.ntmps21
  go_wp2_with fail
  have q1 : s.pairs.length ≤ 1000000 := Nat.le_trans HBD.out.p (by decide)
  have q2 : s.reps.length ≤ 1000000 := Nat.le_trans HBD.out.r (by omega)
  have q3 : s.mbs.length ≤ 1000000 := Nat.le_trans HBD.out.m (by decide)
  refine (copied_any Ap Ar Am cp cr cm s _ _ _ _ _ (HA.out.p.below hb0.out) (HA.out.r.below hb0.out) (HA.out.m.below hb0.out) q1 q2 q3 HBD.out.vk).mono ?_
  rintro e w1 ⟨v, rfl, hos, hb1⟩
  have hos' := hos.lower (base' := w.heap.size) hb0.out.size
  obtain ⟨Ap1, cp1, Ar1, cr1, Am1, cm1, rfl, hsv⟩ := hos.sv
  have HB1 := Lib.hid (hb0.out.trans (hb1.mono (by simp only [World.size_alloc]; omega)))
  have kR1 := Lib.hid (blk_later hb1 kR0)
  have HSV := Lib.hid hos'
  clear hos hos' hsv hb1 hb0 kR0
  go_wp2_with fail
  have hX := Lib.hid (show Below w1.heap.size w1 (w1.alloc (.cells #[.slice Ap1 s.pairs.length cp1, .slice Ar1 s.reps.length cr1, .int .i64 s.epoch, .slice Am1 s.mbs.length cm1] 28)) from (Below.refl _ _).alloc (Nat.le_refl _) _)
  have HI0 := Lib.hid (show AllI w (w1.alloc (.cells #[.slice Ap1 s.pairs.length cp1, .slice Ar1 s.reps.length cr1, .int .i64 s.epoch, .slice Am1 s.mbs.length cm1] 28)) w1.heap.size Ap1 cp1 Ar1 cr1 Am1 cm1 none 0 0 (allS s (qs.take 0)) (allR s (qs.take 0)) from
    ⟨blk_later hX.out kR1.out, heap_alloc_last _ _, HSV.out.below hX.out, OwnReps.nil _ _, rfl, HB1.out.trans (hX.out.mono HB1.out.size)⟩)
  have hGw : w.heap.size + 1 < w1.heap.size := heap_lt kR1.out
  obtain ⟨G, hG⟩ : ∃ G, G = w1.heap.size := ⟨_, rfl⟩
  obtain ⟨w2, hw2⟩ : ∃ x, x = w1.alloc (.cells #[.slice Ap1 s.pairs.length cp1, .slice Ar1 s.reps.length cr1, .int .i64 s.epoch, .slice Am1 s.mbs.length cm1] 28) := ⟨_, rfl⟩
  rw [← hG] at hGw
  rw [← hw2, ← hG] at HI0
  rw [← hw2, ← hG]
  clear hw2 hX kR1 HSV HB1 hG w1
  go_loopw [15, 7] (fun i v wr => ∃ (k : Nat) (Ap : Option Addr) (cp : Nat) (Ar : Option Addr) (cr : Nat) (Am : Option Addr) (cm : Nat) (A : Option Addr) (c : Nat), k ≤ n ∧ i = .int .i64 k ∧ v = .slice A k c ∧ Hid (AllI w wr G Ap cp Ar cr Am cm A k c (allS s (qs.take k)) (allR s (qs.take k))))
    (fun i _ _ => n - (intOf i).toNat)
  case atStart => exact ⟨0, Ap1, cp1, Ar1, cr1, Am1, cm1, none, 0, Nat.zero_le _, rfl, rfl, HI0⟩
  case round =>
    clear HI0
    obtain ⟨k, Bp, dp, Br, dr, Bm, dm, D, d, hk, rfl, rfl, HI⟩ := hrel
    have hGr : G < wr.heap.size := heap_lt HI.out.out
    have hsz := HI.out.bel.size
    obtain ⟨o0, o1, o2, o3, o4⟩ := four HI.out.out
    by_cases hlt : k < n
    · have HBK := Lib.hid (show BdS 1000 (allS s (qs.take k)) from (allS_bd HBD.out (qs.take k)).mono (by rw [List.length_take]; omega))
      have HS1 := Lib.hid (allS_snoc s (qs.take k) (reqOf qs k))
      have HR1 := Lib.hid (allR_snoc s (qs.take k) (reqOf qs k))
      rw [← take_snoc (by rw [HN.out]; exact hlt)] at HS1 HR1
      obtain ⟨st, hst⟩ : ∃ st, st = allS s (qs.take k) := ⟨_, rfl⟩
      obtain ⟨rs, hrs⟩ : ∃ rs, rs = allR s (qs.take k) := ⟨_, rfl⟩
      obtain ⟨g, off, hA, hg, c0⟩ := (HR.out.below HI.out.bel).range (req_at (k := k) (by rw [HN.out]; exact hlt))
      obtain ⟨q, hq⟩ : ∃ q, q = reqOf qs k := ⟨_, rfl⟩
      rw [← hq] at c0 HS1 HR1
      rw [← hst] at HBK HS1 HR1 HI o0 o1 o2 o3
      rw [← hrs] at HR1 HI
      subst hA
      have HC := Lib.hid c0
      have hki : (k : Int) < n := by omega
      clear hst hrs hq c0
      have HQ2 := Lib.hid (Req.facts (at2_0 wr (.cells q.arr 56) (.cells #[.int .i64 0, .int .i64 0, .int .i64 0, .slice none 0 0] 36))).2.2.1
      go_wp2_with (first
        | (with_reducible refine loadM rfl 56 _ rfl g (off + k * 42) rfl 42 _ (Req.len _) _ HC.out Tryd.underlying56 rfl size56 q.arr rfl ?_)
        | (with_reducible refine loadM rfl 56 _ rfl wr.heap.size 0 rfl 42 _ (Req.len _) _ HQ2.out Tryd.underlying56 rfl size56 q.arr rfl ?_)
        | (with_reducible refine storeNew rfl 56 _ _ rfl rfl q.arr rfl 56 _ 42 (Req.arrSize _) size56 rfl (Req.ones _) ?_))
      have hW2 := Lib.hid (show Below wr.heap.size wr ((wr.alloc (.cells q.arr 56)).alloc (.cells #[.int .i64 0, .int .i64 0, .int .i64 0, .slice none 0 0] 36)) from ((Below.refl _ _).alloc (Nat.le_refl _) _).alloc (by rw [World.size_alloc]; omega) _)
      have kT := at2_1 wr (.cells q.arr 56) (.cells #[.int .i64 0, .int .i64 0, .int .i64 0, .slice none 0 0] 36)
      have hs2 : ((wr.alloc (.cells q.arr 56)).alloc (.cells #[.int .i64 0, .int .i64 0, .int .i64 0, .slice none 0 0] 36)).heap.size = wr.heap.size + 2 := by simp only [World.size_alloc]
      refine (Apply_sv Bp Br Bm dp dr dm 1000 st q _ (HI.out.sv.below hW2.out).toSV HBK.out (by decide) ((HT.out.below (HI.out.bel.trans (hW2.out.mono hsz))).mono (by rw [hs2]; omega))).mono ?_
      rintro e w3 ⟨v3, vr, rfl, hos, ⟨Av, cv, rfl, hcv, hrow⟩, hb3⟩
      rw [hs2] at hos
      obtain ⟨Ap3, cp3, Ar3, cr3, Am3, cm3, rfl, c1, c2, c3, oP, oR, oM⟩ := hos
      have HOS := Lib.hid (show OwnSt w3 (wr.heap.size + 2) (SV.val Ap3 cp3 Ar3 cr3 Am3 cm3 (applyS st q)) (applyS st q) from ⟨_, _, _, _, _, _, rfl, c1, c2, c3, oP, oR, oM⟩)
      have HROW := Lib.hid hrow
      have hB3 := Lib.hid (hW2.out.trans (hb3.mono (by rw [hs2]; omega)))
      have kG3 := Lib.hid (blk_later hB3.out HI.out.out)
      have kT3 := Lib.hid (blk_later hb3 kT)
      have kR3 := Lib.hid (blk_later hB3.out HI.out.res)
      obtain ⟨els, oE, lE, rE⟩ := HI.out.own
      have HK := Lib.hid oE.base_le
      have OE3 := Lib.hid (oE.below hB3.out)
      have RE3 := Lib.hid (show ∀ (k : Nat) (e : List Value) (r : Rp), els[k]? = some e → rs[k]? = some r → RepC w3 (fun t => t = 9) e r from fun k e r he hr => (rE k e r he hr).below hB3.out)
      have LE := Lib.hid lE
      have LK := Lib.hid HI.out.len
      have hT3 : wr.heap.size + 1 < w3.heap.size := heap_lt kT3.out
      have hG3 : G < w3.heap.size := by omega
      have hne : ¬ G = wr.heap.size + 1 := by omega
      have hne' : ¬ wr.heap.size + 1 = G := by omega
      clear oP oR oM c1 c2 c3 hrow hb3 kT oE lE rE o0 o1 o2 o3 o4 HQ2 HC hW2
      obtain ⟨W4, hW4⟩ : ∃ W4, W4 = ((((((((w3.setCell ⟨G, 0, none⟩ (.slice Ap3 (applyS st q).pairs.length cp3)).setCell ⟨G, 1, none⟩ (.slice Ar3 (applyS st q).reps.length cr3)).setCell ⟨G, 2, none⟩ (.int .i64 (applyS st q).epoch)).setCell ⟨G, 3, none⟩ (.slice Am3 (applyS st q).mbs.length cm3)).setCell ⟨wr.heap.size + 1, 0, none⟩ (.int .i64 (applyR st q).client)).setCell ⟨wr.heap.size + 1, 1, none⟩ (.int .i64 (applyR st q).num)).setCell ⟨wr.heap.size + 1, 2, none⟩ (.int .i64 (applyR st q).code)).setCell ⟨wr.heap.size + 1, 3, none⟩ (.slice Av (applyR st q).vals.length cv)) := ⟨_, rfl⟩
      have kT3' : (w3.setRow G #[.slice Ap3 (applyS st q).pairs.length cp3, .slice Ar3 (applyS st q).reps.length cr3, .int .i64 (applyS st q).epoch, .slice Am3 (applyS st q).mbs.length cm3]).heap[wr.heap.size + 1]? = _ := (setRow_other _ _ _ _ hne').trans kT3.out
      have hW4' := hW4
      rw [store4 kG3.out, store4 kT3'] at hW4'
      have other : ∀ k, k ≠ G → k ≠ wr.heap.size + 1 → W4.heap[k]? = w3.heap[k]? := fun k h1 h2 => by rw [hW4']; exact (setRow_other _ _ _ _ h2).trans (setRow_other _ _ _ _ h1)
      have kG4 : W4.heap[G]? = some (.cells #[.slice Ap3 (applyS st q).pairs.length cp3, .slice Ar3 (applyS st q).reps.length cr3, .int .i64 (applyS st q).epoch, .slice Am3 (applyS st q).mbs.length cm3] 28 (0, 0)) := by rw [hW4']; exact (setRow_other _ _ _ _ hne).trans (setRow_heap _ _ _ _ _ _ kG3.out)
      have s4 : W4.heap.size = w3.heap.size := by rw [hW4]; simp
      have B4 : Below w.heap.size w W4 := by rw [hW4']; exact below_setRow (below_setRow (HI.out.bel.trans (hB3.out.mono hsz)) (by omega) _) (by omega) _
      have o9 : ∀ (b : Nat) (cs : Array Value) (fz : Nat × Nat), w3.heap[b]? = some (Obj.cells cs 9 fz) → W4.heap[b]? = w3.heap[b]? := fun b cs fz hb => other b
        (fun e => by rw [e, kG3.out] at hb; cases hb) (fun e => by rw [e, kT3.out] at hb; cases hb)
      have OE4 := Lib.hid (OE3.out.keep fun k hk => other k (fun e => by obtain ⟨cs, hc⟩ := OE3.out.typed k hk; rw [e, kG3.out] at hc; cases hc) (by have := (HK.out k hk).2; omega))
      have HOS4 := Lib.hid (HOS.out.move (Nat.le_refl _) (fun k hk => other k (by omega) (by omega)) o9)
      have RE4 := Lib.hid (show ∀ (k : Nat) (e : List Value) (r : Rp), els[k]? = some e → rs[k]? = some r → RepC W4 (fun t => t = 9) e r from fun k e r he hr => (RE3.out k e r he hr).moved o9)
      have ROW4 := Lib.hid (HROW.out.keep (w' := W4) fun b cs t fz hb ht => by subst ht; exact o9 b cs fz hb)
      have kR4 := Lib.hid ((other (w.heap.size + 1) (by omega) (by omega)).trans kR3.out)
      have hX5 := Lib.hid (show Below W4.heap.size W4 (W4.alloc (.cells #[.int .i64 (applyR st q).client, .int .i64 (applyR st q).num, .int .i64 (applyR st q).code, .slice Av (applyR st q).vals.length cv] 36)) from (Below.refl _ _).alloc (Nat.le_refl _) _)
      have HW4 := Lib.hid hW4
      have KG4 := Lib.hid kG4
      have S4 := Lib.hid s4
      have BB4 := Lib.hid B4
      clear hW4 hW4' other kG4 s4 B4 o9 kT3'
      obtain ⟨o0, o1, o2, o3, o4⟩ := four kG3.out
      obtain ⟨p0, p1, p2, p3, p4⟩ := four kT3.out
      go_wp2_with (at_builtin; refine appendOwn rfl (.tmp 25) (.tmp 27) 23 rfl w.heap.size 36 4 48 el36 _ els [[.int .i64 (applyR st q).client, .int .i64 (applyR st q).num, .int .i64 (applyR st q).code, .slice Av (applyR st q).vals.length cv]] rfl ?own (some _) 1 1 rfl rfl (fun t => t = 36) ?row ?len ?one ?c3 ?c4 ?c5 ?_)
      case len => intro y hy; simp at hy; subst hy; rfl
      case one => intro y hy u hu; simp at hy; subst hy; simp at hu; rcases hu with rfl | rfl | rfl | rfl <;> rfl
      case c3 => have := LE.out; have := LK.out; simp [maxLen]; omega
      case c4 => have := LE.out; have := LK.out; simp; omega
      case c5 => rw [← HW4.out]; have := BB4.out.size; rw [World.size_alloc]; omega
      case own => rw [← HW4.out]; exact OE4.out.below hX5.out
      case row =>
        have hrl := row_lit W4 36 4 [[.int .i64 (applyR st q).client, .int .i64 (applyR st q).num, .int .i64 (applyR st q).code, .slice Av (applyR st q).vals.length cv]] #[.int .i64 (applyR st q).client, .int .i64 (applyR st q).num, .int .i64 (applyR st q).code, .slice Av (applyR st q).vals.length cv] (by intro y hy; simp at hy; subst hy; rfl) rfl
        rw [S4.out] at hrl
        rw [← HW4.out]
        exact hrl
      intro v' w6 hov6 hg6 _
      rw [← HW4.out] at hg6
      obtain ⟨A6, c6, hv6, hc6, _⟩ := hov6.row
      subst hv6
      have hlen6 : (els ++ [[Value.int .i64 (applyR st q).client, Value.int .i64 (applyR st q).num, Value.int .i64 (applyR st q).code, Value.slice Av (applyR st q).vals.length cv]]).length = k + 1 := by have := LE.out; have := LK.out; simp; omega
      rw [hlen6] at hov6 hc6 ⊢
      have hgT : ∀ k', (Value.slice D k d).ownBlock = some k' → k' < wr.heap.size + 2 ∧ ∃ cs, (W4.alloc (.cells #[.int .i64 (applyR st q).client, .int .i64 (applyR st q).num, .int .i64 (applyR st q).code, .slice Av (applyR st q).vals.length cv] 36)).heap[k']? = some (Obj.cells cs 36 (0, 0)) := fun k' e =>
        ⟨by have := (HK.out k' e).2; omega, (OE4.out.below hX5.out).typed k' e⟩
      have hg6' : (W4.alloc (.cells #[.int .i64 (applyR st q).client, .int .i64 (applyR st q).num, .int .i64 (applyR st q).code, .slice Av (applyR st q).vals.length cv] 36)).grownBy w6 (Value.slice D k d).ownBlock := hg6
      have SV6 := Lib.hid (((HOS4.out.below hX5.out).grown hg6' hgT).lower (base' := w.heap.size) (by omega))
      have kG6 := Lib.hid (blk_grown hg6' (blk_later hX5.out KG4.out) fun e => by obtain ⟨_, cs, hc⟩ := hgT _ e; rw [blk_later hX5.out KG4.out] at hc; cases hc)
      have kR6 := Lib.hid (blk_grown hg6' (blk_later hX5.out kR4.out) fun e => by obtain ⟨_, cs, hc⟩ := hgT _ e; rw [blk_later hX5.out kR4.out] at hc; cases hc)
      have BB6 := Lib.hid (grown_below (BB4.out.trans (hX5.out.mono BB4.out.size)) hg6' fun k' e => (HK.out k' e).1)
      have OR6 := Lib.hid (OwnReps.push (OE4.out.below hX5.out) LE.out (fun j e r he hr => (RE4.out j e r he hr).below hX5.out) ⟨Av, cv, rfl, hcv, ROW4.out.below hX5.out⟩ hov6 hg6')
      clear hov6 hg6 hg6' hgT hlen6 o0 o1 o2 o3 o4 p0 p1 p2 p3 p4
      go_wp2_with fail
      go_roundw
      case rel =>
        refine ⟨k + 1, Ap3, cp3, Ar3, cr3, Am3, cm3, A6, c6, by omega, by go_num, rfl, ?_⟩
        rw [HS1.out, HR1.out]
        exact ⟨kR6.out, kG6.out, SV6.out, OR6.out, by have := LK.out; simp; omega, BB6.out⟩
      case measure => simp only [intOf]; omega
    · obtain rfl : k = n := by omega
      obtain ⟨t0, t1, t2, t3, t4⟩ := four HI.out.res
      go_wp2_with fail
      rw [store4 HI.out.res]
      obtain ⟨st, hst⟩ : ∃ st, st = allS s (qs.take k) := ⟨_, rfl⟩
      obtain ⟨rs, hrs⟩ : ∃ rs, rs = allR s (qs.take k) := ⟨_, rfl⟩
      rw [← hst, ← hrs] at HI
      rw [← hst]
      have hq : qs.take k = qs := List.take_of_length_le (by rw [HN.out]; omega)
      rw [hq] at hst hrs
      have hg := setRow_heap wr (w.heap.size + 1) _ #[.slice Bp st.pairs.length dp, .slice Br st.reps.length dr, .int .i64 st.epoch, .slice Bm st.mbs.length dm] 28 (0, 0) HI.out.res
      refine bodyPost_ret (res_ct rfl _ _ (w.heap.size + 1) 28 _ (0, 0) _ rfl hg Tryd.underlying28 rfl size28) rfl ?_
      have hk' : ∀ k, k ≠ w.heap.size + 1 → (wr.setRow (w.heap.size + 1) #[.slice Bp st.pairs.length dp, .slice Br st.reps.length dr, .int .i64 st.epoch, .slice Bm st.mbs.length dm]).heap[k]? = wr.heap[k]? := fun k hk => setRow_other _ _ _ _ hk
      rw [← hst, ← hrs]
      obtain ⟨A', c', hv, _, hrr⟩ := (HI.out.own.other HI.out.res (by decide) (by decide) hk').reps
      rw [HI.out.len] at hv
      cases hv
      refine ⟨Bp, dp, Br, dr, Bm, dm, D, d, ?_, (HI.out.sv.other HI.out.res hk').toSV, hrr.weaken (fun _ _ => trivial) (fun _ _ => trivial), below_setRow HI.out.bel (by omega) _⟩
      rw [HI.out.len]
      rfl
end Go.Proofs.YtchnnplcpidkiaaDoor
