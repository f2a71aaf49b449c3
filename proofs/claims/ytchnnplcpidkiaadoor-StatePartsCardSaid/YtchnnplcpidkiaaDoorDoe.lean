/-
  The mirror of state.does and the facts that its walk carries.
-/
import Derived.Test.YtchnnplcpidkiaaDoorCap
import Derived.Test.YtchnnplcpidkiaaDoorPut
import Derived.Test.YtchnnplcpidkiaaDoorIto
namespace Go.Proofs.YtchnnplcpidkiaaDoor
open Go.RowKit

def Req.chg (q : Req) : Chg := ⟨q.chk, q.chid, q.chnew, q.root, q.height⟩
def Req.opC (q : Req) : List Value := .int .i64 q.kind :: .string q.key :: .string q.val :: .string q.old :: q.chg.cells
def Req.opA (q : Req) : Array Value := q.opC.toArray
theorem Req.opLen (q : Req) : q.opC.length = 40 := by simp [Req.opC, Chg.len]
@[simp, go_sem] theorem Req.opSize (q : Req) : q.opA.size = 40 := by simp [Req.opA, Req.opLen]
@[simp, go_sem] theorem Req.o0 (q : Req) : q.opA[0]? = some (.int .i64 q.kind) := rfl
@[simp, go_sem] theorem Req.p0 (q : Req) (h : 0 < q.opA.size) : q.opA[0]'h = .int .i64 q.kind := rfl
@[simp, go_sem] theorem Req.o1 (q : Req) : q.opA[1]? = some (.string q.key) := rfl
@[simp, go_sem] theorem Req.p1 (q : Req) (h : 1 < q.opA.size) : q.opA[1]'h = .string q.key := rfl
@[simp, go_sem] theorem Req.o2 (q : Req) : q.opA[2]? = some (.string q.val) := rfl
@[simp, go_sem] theorem Req.p2 (q : Req) (h : 2 < q.opA.size) : q.opA[2]'h = .string q.val := rfl
@[simp, go_sem] theorem Req.o3 (q : Req) : q.opA[3]? = some (.string q.old) := rfl
@[simp, go_sem] theorem Req.p3 (q : Req) (h : 3 < q.opA.size) : q.opA[3]'h = .string q.old := rfl
theorem Req.opFacts {w : World} {b : Nat} {q : Req} {t : TypeId} {fz : Nat × Nat} (h : w.heap[b]? = some (.cells q.opA t fz)) :
    w.cell? ⟨b, 0, none⟩ = some (.int .i64 q.kind) ∧ w.cell? ⟨b, 1, none⟩ = some (.string q.key) ∧ w.cell? ⟨b, 2, none⟩ = some (.string q.val) ∧ w.cell? ⟨b, 3, none⟩ = some (.string q.old) ∧ w.rangeAt b 4 q.chg.cells :=
  ⟨by rw [cell_of_row w b _ _ t _ h]; rfl, by rw [cell_of_row w b _ _ t _ h]; rfl, by rw [cell_of_row w b _ _ t _ h]; rfl, by rw [cell_of_row w b _ _ t _ h]; rfl, fun j v hv => by
    rw [cell_of_row w b _ _ t _ h]
    have : q.opC[j + 4]? = some v := by simpa [Req.opC] using hv
    rw [show 4 + j = j + 4 from by omega]
    simpa [Req.opA] using this⟩

def delP (ps : List Pr) (key : ByteArray) : List Pr := ps.take (findP ps key) ++ ps.drop (findP ps key + 1)
def sameB (a b : ByteArray) : Bool := a.toList == b.toList
def scanP (ps : List Pr) (pre : ByteArray) : List ByteArray := (ps.filter fun p => hasPre p.key pre).map (·.key)
theorem scan_step (ps : List Pr) (pre : ByteArray) (k : Nat) (hk : k < ps.length) :
    scanP (ps.take (k + 1)) pre = if hasPre ps[k].key pre = true then scanP (ps.take k) pre ++ [ps[k].key] else scanP (ps.take k) pre := by
  rw [scanP, scanP, List.take_add_one, List.getElem?_eq_getElem hk, Option.toList_some, List.filter_append, List.map_append]
  by_cases h : hasPre ps[k].key pre = true
  · rw [if_pos h]; simp [h]
  · rw [if_neg h]; simp [h]
def lstV (s : St) (k : Nat) : List ByteArray := itoaB s.epoch :: (s.mbs.take k).map fun m => itoaB m.id
theorem lst_len (s : St) (k : Nat) (hk : k ≤ s.mbs.length) : (lstV s k).length = k + 1 := by simp [lstV]; omega
theorem lst_step (s : St) (k : Nat) (hk : k < s.mbs.length) : lstV s (k + 1) = lstV s k ++ [itoaB (mbOf s.mbs k).id] := by
  have e : mbOf s.mbs k = s.mbs[k] := by simp [mbOf, List.getD_eq_getElem?_getD, hk]
  rw [lstV, List.take_add_one, List.getElem?_eq_getElem hk, List.map_append, e]
  rfl
theorem cfg_good {ep : Int} {ms : List Mb} {g : Chg} (h : cfgCode ep ms g = 0) : goodM ep ms = true := by
  cases hg : goodM ep ms
  · rw [cfgCode, if_pos (Or.inl hg)] at h; cases h
  · rfl
/-- A load of a whole change, kept shut. -/
def ld52 (v : Value) : Sem Value := Instr.loadAt 52 v
theorem to_ld52 (v : Value) : Instr.loadAt 52 v = ld52 v := rfl
theorem run_ld52 {w : World} {b o : Nat} {g : Chg} (h : w.rangeAt b o g.cells) : (ld52 (.pointer (some ⟨b, o, none⟩))).run Tryd.prog w = .ok (.agg g.arr) w :=
  run_loadAt_mid w b o 52 g.cells _ h Tryd.underlying52 rfl (by rw [Chg.len]; exact size52)
def doesC (s : St) (q : Req) : Int :=
  if q.kind = 1 then (if hasP s.pairs q.key then 0 else 7)
  else if q.kind = 2 then putC s.pairs q.key
  else if q.kind = 3 then (if hasP s.pairs q.key then 0 else 7)
  else if q.kind = 4 then (if hasP s.pairs q.key then (if sameB (valOf s.pairs (findP s.pairs q.key)) q.old then 0 else 9) else 7)
  else if q.kind = 5 then 0
  else if q.kind = 6 then 0
  else if q.kind = 7 then cfgCode s.epoch s.mbs q.chg
  else 1
def doesV (s : St) (q : Req) : List ByteArray :=
  if q.kind = 1 then (if hasP s.pairs q.key then [valOf s.pairs (findP s.pairs q.key)] else [])
  else if q.kind = 4 then (if hasP s.pairs q.key then (if sameB (valOf s.pairs (findP s.pairs q.key)) q.old then [] else [valOf s.pairs (findP s.pairs q.key)]) else [])
  else if q.kind = 5 then scanP s.pairs q.key
  else if q.kind = 6 then itoaB s.epoch :: s.mbs.map fun m => itoaB m.id
  else []
def doesS (s : St) (q : Req) : St :=
  if q.kind = 2 then { s with pairs := putP s.pairs q.key q.val }
  else if q.kind = 3 then (if hasP s.pairs q.key then { s with pairs := delP s.pairs q.key } else s)
  else if q.kind = 4 then (if hasP s.pairs q.key && sameB (valOf s.pairs (findP s.pairs q.key)) q.old then { s with pairs := setP s.pairs q.key q.val } else s)
  else if q.kind = 7 then (if cfgCode s.epoch s.mbs q.chg = 0 then { s with epoch := s.epoch + 1, mbs := cfgMs s.mbs q.chg } else s)
  else s

/-- The state in the block gs: its pairs and its members are its own. -/
structure StI (w : World) (base gs : Nat) (Ap : Option Addr) (cp : Nat) (Ar : Option Addr) (nr cr : Nat) (Am : Option Addr) (cm : Nat) (s : St) : Prop where
  blk : w.heap[gs]? = some (.cells #[.slice Ap s.pairs.length cp, .slice Ar nr cr, .int .i64 s.epoch, .slice Am s.mbs.length cm] 28 (0, 0))
  capP : s.pairs.length ≤ cp
  capM : s.mbs.length ≤ cm
  ownP : Own w base 42 2 (.slice Ap s.pairs.length cp) (s.pairs.map Pr.cells)
  ownM : Own w base 84 34 (.slice Am s.mbs.length cm) (s.mbs.map Mb.cells)
theorem StI.below {w w' : World} {base gs : Nat} {Ap : Option Addr} {cp : Nat} {Ar : Option Addr} {nr cr : Nat} {Am : Option Addr} {cm : Nat} {s : St} (h : StI w base gs Ap cp Ar nr cr Am cm s) (hb : Below w.heap.size w w') : StI w' base gs Ap cp Ar nr cr Am cm s :=
  ⟨blk_later hb h.blk, h.capP, h.capM, h.ownP.below hb, h.ownM.below hb⟩

def DoesPost (w : World) (base gs : Nat) (Ar : Option Addr) (nr cr : Nat) (s' : St) (code : Int) (vals : List ByteArray) (E : Ending) (w' : World) : Prop :=
  ∃ Av cv, E = .returned (.tuple #[.int .i64 code, .slice Av vals.length cv]) ∧ vals.length ≤ cv ∧ Row w' (fun t => t = 9) 1 Av (vals.map strC) ∧
    (∃ Ap cp Am cm, StI w' base gs Ap cp Ar nr cr Am cm s') ∧ Below base w w' ∧ Kept w w' gs

theorem Kept.of_below {w w' : World} {gs : Nat} (hb : Below w.heap.size w w') : Kept w w' gs := fun _ _ ho _ _ => blk_later hb ho
theorem Kept.after {w w1 w' : World} {gs : Nat} (hb : Below w.heap.size w w1) (h : Kept w1 w' gs) : Kept w w' gs := fun k o ho hne ht => h k o (blk_later hb ho) hne ht
theorem DoesPost.of {w w' : World} {base gs : Nat} {Ap : Option Addr} {cp : Nat} {Ar : Option Addr} {nr cr : Nat} {Am : Option Addr} {cm : Nat} {s : St} (h : StI w base gs Ap cp Ar nr cr Am cm s) (hb : Below w.heap.size w w') (hbase : base ≤ w.heap.size)
    {s' : St} (hs : s' = s) {code code' : Int} (hc : code' = code) {vals vals' : List ByteArray} (hv : vals' = vals) {Av : Option Addr} {n cv : Nat} (hn : vals.length = n) (hcv : n ≤ cv) (hr : Row w' (fun t => t = 9) 1 Av (vals.map strC)) :
    DoesPost w base gs Ar nr cr s' code' vals' (.returned (.tuple #[.int .i64 code, .slice Av n cv])) w' := by
  subst hs hc hv hn
  exact ⟨Av, cv, rfl, hcv, hr, ⟨Ap, cp, Am, cm, h.below hb⟩, hb.mono hbase, Kept.of_below hb⟩

attribute [local go_sem ↓] to_ld52
set_option maxHeartbeats 2000000 in
set_option maxRecDepth 100000 in
theorem does_any (base gs : Nat) (Ap : Option Addr) (cp : Nat) (Ar : Option Addr) (nr cr : Nat) (Am : Option Addr) (cm : Nat) (s : St) (q : Req) (w : World) (hi : StI w base gs Ap cp Ar nr cr Am cm s)
    (b1 : s.pairs.length ≤ 1000000) (b2 : s.mbs.length ≤ 1000000) (hg : base ≤ gs) (hbw : base ≤ w.heap.size) (ht : Tab base w) (he : -9223372036854775808 ≤ s.epoch ∧ s.epoch ≤ 9223372036854775807)
    (hid : ∀ k, -9223372036854775808 ≤ (mbOf s.mbs k).id ∧ (mbOf s.mbs k).id ≤ 9223372036854775807) :
    Calls Tryd.prog 35 #[.pointer (some ⟨gs, 0, none⟩), .agg q.opA] w (DoesPost w base gs Ar nr cr (doesS s q) (doesC s q) (doesV s q)) := by
  have HI := Lib.hid hi
  have HE := Lib.hid he
  have HD := Lib.hid hid
  have HT := Lib.hid ht
  clear hi he hid ht
  obtain ⟨s0, s1, s2, s3, s4⟩ := four HI.out.blk
  have hz : gs < w.heap.size := heap_lt HI.out.blk
  go_enter Tryd.func35, Tryd.ntmps35
  go_wp2_with fail
  have hB1 := Lib.hid (show Below w.heap.size w (w.alloc (.cells q.opA 54)) from (Below.refl _ _).alloc (Nat.le_refl _) _)
  have HI1 := Lib.hid (HI.out.below hB1.out)
  have kO := Lib.hid (show (w.alloc (.cells q.opA 54)).heap[w.heap.size]? = some (.cells q.opA 54 (0, 0)) from heap_alloc_last _ _)
  have hzO : w.heap.size < (w.alloc (.cells q.opA 54)).heap.size := heap_lt kO.out
  have hzS : gs < (w.alloc (.cells q.opA 54)).heap.size := heap_lt HI1.out.blk
  obtain ⟨t0, t1, t2, t3, _⟩ := four HI1.out.blk
  obtain ⟨o0, o1, o2, o3, o4⟩ := Req.opFacts kO.out
  have x0 := Wd.cell t0 hzS
  have x1 := Wd.cell t1 hzS
  have x2 := Wd.cell t2 hzS
  have x3 := Wd.cell t3 hzS
  have y1 := Wd.cell o1 hzO
  refine region_wd _ (by kernel_rfl) (by kernel_rfl) ?_
  repeat (go_big_quiet_step (exact Wd.call _ (pair_any _ _ s.pairs _ _ _ _ q.key _ (HI1.out.ownP.rowOf.below (Wd.be _)) b1)))
  refine wpQuiet_nil ?_
  rintro _ ⟨i, rfl⟩
  have HB := Lib.hid (hB1.out.trans (i.be.mono (by rw [World.size_alloc]; omega)))
  have HI2 := Lib.hid (HI1.out.below i.be)
  have kO2 := Lib.hid (blk_later i.be kO.out)
  obtain ⟨w1, hw1⟩ : ∃ w1, w1 = i.wd := ⟨_, rfl⟩
  rw [← hw1] at HB HI2 kO2 ⊢
  clear x0 x1 x2 x3 y1 t0 t1 t2 t3 o0 o1 o2 o3 o4 s0 s1 s2 s3 s4 hzO hzS hw1 i hB1 HI1 kO
  have hzw : w.heap.size < w1.heap.size := heap_lt kO2.out
  have hzg : gs < w1.heap.size := heap_lt HI2.out.blk
  obtain ⟨s0, s1, s2, s3, s4⟩ := four HI2.out.blk
  obtain ⟨o0, o1, o2, o3, o4⟩ := Req.opFacts kO2.out
  by_cases h1 : q.kind = 1
  · have hk := h1
    rw [hk] at o0
    cases hh : hasP s.pairs q.key
    · have hh := Lib.hid hh
      go_wp2_with fail
      go_ret2
      exact DoesPost.of (vals := []) HI.out HB.out hbw (by simp [doesS, hk, hh.out]) (by simp [doesC, hk, hh.out]) (by simp [doesV, hk, hh.out]) rfl (Nat.le_refl _) (Row.nil _ _ _ _)
    · have hlt := findP_lt hh
      have hh := Lib.hid hh
      obtain ⟨g, cs, hA, hgb, hbg, hf, hc, _⟩ := HI2.out.ownP.spot (pairs_at hlt)
      subst hA
      have c1 := hc 1 _ rfl
      clear hc hgb hf
      go_wp2_with fail
      go_ret2
      exact DoesPost.of (vals := [valOf s.pairs (findP s.pairs q.key)]) HI.out (HB.out.alloc (Nat.le_of_lt hzw) _) hbw (by simp [doesS, hk, hh.out]) (by simp [doesC, hk, hh.out]) (by simp [doesV, hk, hh.out]) rfl (Nat.le_refl _) (row_lit w1 9 1 [[.string (valOf s.pairs (findP s.pairs q.key))]] _ (by intro y hy; simp at hy; subst hy; rfl) rfl)
  by_cases h2 : q.kind = 2
  · have hk := h2
    rw [hk] at o0
    go_wp2_with fail
    refine (put_any base gs Ap s.pairs.length cp Ar nr cr s.epoch Am s.mbs.length cm s.pairs q.key q.val w1 rfl HI2.out.capP HI2.out.blk HI2.out.ownP b1 hg (by omega)).mono ?_
    rintro e w2 ⟨rfl, A2, c2, hblk, hc2, ho2, hb2, hkept⟩
    have HBLK := Lib.hid hblk
    have HO2 := Lib.hid ho2
    have HB2 := Lib.hid hb2
    have HKE := Lib.hid hkept
    clear hblk ho2 hb2 hkept s0 s1 s2 s3 s4
    go_wp2_with fail
    go_ret2
    exact ⟨none, 0, by simp [doesC, doesV, hk], by simp [doesV, hk], by simp [doesV, hk]; exact Row.nil _ _ _ _, ⟨A2, c2, Am, cm, by rw [doesS, if_pos hk]; exact ⟨HBLK.out, hc2, HI2.out.capM, HO2.out, HI2.out.ownM.keep fun k hk' => by
      obtain ⟨cells, hc⟩ := HI2.out.ownM.typed k hk'
      rw [hc]
      exact HKE.out k _ hc (fun e => by have h1 := HI2.out.blk; rw [← e, hc] at h1; cases h1) (by intro cs fz h; cases h)⟩⟩,
      (HB.out.mono hbw).trans HB2.out, Kept.after HB.out HKE.out⟩
  by_cases h3 : q.kind = 3
  · have hk := h3
    rw [hk] at o0
    cases hh : hasP s.pairs q.key
    · have hh := Lib.hid hh
      go_wp2_with fail
      go_ret2
      exact DoesPost.of (vals := []) HI.out HB.out hbw (by simp [doesS, hk, hh.out]) (by simp [doesC, hk, hh.out]) (by simp [doesV, hk, hh.out]) rfl (Nat.le_refl _) (Row.nil _ _ _ _)
    · have hlt := findP_lt hh
      have hfw : wrap64 ((findP s.pairs q.key : Int) + 1) = (findP s.pairs q.key : Int) + 1 := by simp only [wrap64]; omega
      have hh := Lib.hid hh
      go_wp2_with fail
      refine (delP_any base Ap s.pairs.length cp (findP s.pairs q.key) _ (s.pairs.map Pr.cells) w1 HI2.out.ownP pr_one hlt (by first | rfl | (simp only [wrap64]; omega)) b1).mono ?_
      rintro e w2 ⟨A2, c2, rfl, hc2, ho2, hg2⟩
      have hcc : (s.pairs.map Pr.cells).take (findP s.pairs q.key) ++ (s.pairs.map Pr.cells).drop (findP s.pairs q.key + 1) = (delP s.pairs q.key).map Pr.cells := by
        rw [delP, List.map_append, List.map_take, List.map_drop]
      rw [hcc, List.length_map] at hc2 ho2
      rw [hcc, List.length_map]
      have hkeep : ∀ (k : Nat) (o : Obj), w1.heap[k]? = some o → (∀ (cs : Array Value) (fz : Nat × Nat), o ≠ Obj.cells cs 42 fz) → w2.heap[k]? = some o := fun k o hk hne =>
        blk_grown hg2 hk fun e => by
          obtain ⟨cells, hc⟩ := HI2.out.ownP.typed k e
          rw [hk] at hc
          cases hc
          exact hne _ _ rfl
      have HKE := Lib.hid hkeep
      have HBLK := Lib.hid (hkeep _ _ HI2.out.blk (by intro cs fz h; cases h))
      have HB2 := Lib.hid ((HB.out.mono hbw).grown hg2 (by omega) (fun k hk => (HI2.out.ownP.base_le k hk).1))
      have HO2 := Lib.hid ho2
      have HM2 := Lib.hid (show Own w2 base 84 34 (.slice Am s.mbs.length cm) (s.mbs.map Mb.cells) from HI2.out.ownM.keep fun k hk' => by
        obtain ⟨cells, hc⟩ := HI2.out.ownM.typed k hk'
        rw [hc]
        exact HKE.out k _ hc (by intro cs fz h; cases h))
      clear hkeep ho2 hg2 s0 s1 s2 s3 s4
      obtain ⟨s0, s1, s2, s3, s4⟩ := four HBLK.out
      go_wp2_with fail
      go_ret2
      exact ⟨none, 0, by simp [doesC, doesV, hk, hh.out], by simp [doesV, hk], by simp [doesV, hk]; exact Row.nil _ _ _ _, ⟨A2, c2, Am, cm, by
        rw [doesS, if_neg (by omega), if_pos hk, hh.out, if_pos rfl]
        exact ⟨blk_set HBLK.out 0 _, hc2, HI2.out.capM, HO2.out.set HBLK.out (by decide) _ _, HM2.out.set HBLK.out (by decide) _ _⟩⟩,
        HB2.out.setCell (p := ⟨gs, 0, none⟩) hg _, fun k o ho hne hty => (Below.heap_setCell w2 ⟨gs, 0, none⟩ _ k hne).trans (HKE.out k o (blk_later HB.out ho) hty)⟩
  by_cases h4 : q.kind = 4
  · have hk := h4
    rw [hk] at o0
    cases hh : hasP s.pairs q.key
    · have hh := Lib.hid hh
      go_wp2_with fail
      go_ret2
      exact DoesPost.of (vals := []) HI.out HB.out hbw (by simp [doesS, hk, hh.out]) (by simp [doesC, hk, hh.out]) (by simp [doesV, hk, hh.out]) rfl (Nat.le_refl _) (Row.nil _ _ _ _)
    · have hlt := findP_lt hh
      have hh := Lib.hid hh
      obtain ⟨g, cs, hA, hgb, hbg, hf, hc, hset⟩ := HI2.out.ownP.spot (pairs_at hlt)
      subst hA
      have c1 := hc 1 _ rfl
      have HGB := Lib.hid hgb
      have hzb : g < w1.heap.size := heap_lt hgb
      clear hc hset hgb
      go_wp2_with fail
      have x0 := Wd.cell s0 hzg
      have x1 := Wd.cell o3 hzw
      have x2 := Wd.cell c1 hzb
      refine region_wd _ (by kernel_rfl) (by kernel_rfl) ?_
      repeat (go_big_quiet_step (fail))
      refine wpQuiet_nil ?_
      rintro _ ⟨i, rfl⟩
      have HB3 := Lib.hid (HB.out.trans (i.be.mono (Nat.le_of_lt hzw)))
      have HI3 := Lib.hid (HI2.out.below i.be)
      have kO3 := Lib.hid (blk_later i.be kO2.out)
      have HGB3 := Lib.hid (blk_later i.be HGB.out)
      have c3 := cell_later i.be c1
      have hz3 : gs < i.wd.heap.size := heap_lt HI3.out.blk
      have hzw3 : w.heap.size < i.wd.heap.size := heap_lt kO3.out
      have hzb3 : g < i.wd.heap.size := heap_lt HGB3.out
      obtain ⟨w2, hw2⟩ : ∃ w2, w2 = i.wd := ⟨_, rfl⟩
      rw [← hw2] at HB3 HI3 kO3 HGB3 c3 hz3 hzw3 hzb3 ⊢
      clear x0 x1 x2 s0 s1 s2 s3 s4 o0 o1 o2 o3 o4 c1 hf hw2 i hzw hzg hzb
      obtain ⟨s0, s1, s2, s3, s4⟩ := four HI3.out.blk
      obtain ⟨o0, o1, o2, o3, o4⟩ := Req.opFacts kO3.out
      go_wp2_with fail
      · rename_i hc _ _
        have hsm := Lib.hid (show sameB (valOf s.pairs (findP s.pairs q.key)) q.old = false from by rw [sameB]; simpa using hc)
        clear hc
        clear o0 o1 o2 o4
        go_region_held3 (fun W => W.cell? ⟨gs, 0, none⟩ = some (.slice (some ⟨g, 0, none⟩) s.pairs.length cp) ∧ W.cell? ⟨g, findP s.pairs q.key * 2 + 1, none⟩ = some (.string (valOf s.pairs (findP s.pairs q.key)))) (go_keep) (fail)
        go_wp2_with fail
        go_ret2
        exact DoesPost.of (vals := [valOf s.pairs (findP s.pairs q.key)]) HI.out ((HB3.out.alloc (Nat.le_of_lt hzw3) _).drew) hbw (by simp [doesS, hk, hh.out, hsm.out]) (by simp [doesC, hk, hh.out, hsm.out]) (by simp [doesV, hk, hh.out, hsm.out]) rfl (Nat.le_refl _) (row_lit w2 9 1 [[.string (valOf s.pairs (findP s.pairs q.key))]] _ (by intro y hy; simp at hy; subst hy; rfl) rfl)
      · rename_i hc
        have hsm := Lib.hid (show sameB (valOf s.pairs (findP s.pairs q.key)) q.old = true from by rw [sameB]; simpa using hc)
        clear hc
        obtain ⟨g2, cs2, hA2, hgb2, hbg2, hf2, hc2, hset2⟩ := HI3.out.ownP.spot (pairs_at hlt)
        obtain rfl : g = g2 := by cases hA2; rfl
        have hst := Lib.hid (hset2 1 (.string q.val) (by decide))
        clear hset2 hc2
        go_still_tail 9, (by kernel_rfl)
        go_wp2_with fail
        go_ret2
        have hne : gs ≠ g := fun e => by
          have h1 := HI3.out.blk
          rw [e, HGB3.out] at h1
          cases h1
        have hes : (s.pairs.map Pr.cells).set (findP s.pairs q.key) [.string (keyOf s.pairs (findP s.pairs q.key)), .string q.val] = (setP s.pairs q.key q.val).map Pr.cells := by
          rw [setP, List.map_set]; rfl
        have hls : (setP s.pairs q.key q.val).length = s.pairs.length := by rw [setP, List.length_set]
        have hst' := hst.out
        rw [show ([Value.string (keyOf s.pairs (findP s.pairs q.key)), .string (valOf s.pairs (findP s.pairs q.key))].set 1 (.string q.val)) = [.string (keyOf s.pairs (findP s.pairs q.key)), .string q.val] from rfl, hes] at hst'
        have hsa := fun (k : Nat) (h : k ≠ g) => Below.heap_setCell w2 ⟨g, findP s.pairs q.key * 2 + 1, none⟩ (.string q.val) k h
        refine ⟨none, 0, by simp [doesC, doesV, hk, hh.out, hsm.out], by simp [doesV, hk, hh.out, hsm.out], by simp [doesV, hk, hh.out, hsm.out]; exact Row.nil _ _ _ _, ⟨some ⟨g, 0, none⟩, cp, Am, cm, ?_⟩, ?_, fun k o hko hne' hty => ?_⟩
        · rw [doesS, if_neg (by omega), if_neg (by omega), if_pos hk, hh.out, hsm.out, if_pos (by decide)]
          refine ⟨?_, ?_, HI3.out.capM, ?_, ?_⟩
          · show ((w2.setCell _ _).drew).heap[gs]? = some (.cells #[.slice _ (setP s.pairs q.key q.val).length cp, _, _, _] 28 (0, 0))
            rw [hls]
            exact (hsa gs hne).trans HI3.out.blk
          · show (setP s.pairs q.key q.val).length ≤ cp
            rw [hls]; exact HI3.out.capP
          · show Own _ _ _ _ (.slice _ (setP s.pairs q.key q.val).length cp) ((setP s.pairs q.key q.val).map Pr.cells)
            rw [hls]
            exact hst'.below (Below.refl _ _).drew
          · refine HI3.out.ownM.keep fun k hk' => hsa k fun e => ?_
            obtain ⟨cells, hc⟩ := HI3.out.ownM.typed k hk'
            rw [e, HGB3.out] at hc
            cases hc
        · exact ((HB3.out.mono hbw).setCell (p := ⟨g, _, none⟩) hbg _).drew
        · refine (hsa k (fun e => ?_)).trans (blk_later HB3.out hko)
          have h1 := blk_later HB3.out hko
          rw [e, HGB3.out] at h1
          cases h1
          exact hty _ _ rfl
  by_cases h5 : q.kind = 5
  · have hk := h5
    rw [hk] at o0
    go_wp2_with fail
    have HI2' := HI2
    have hlt0 := HI2.out.capP
    obtain ⟨Al, cl, hAl, _, hrowP⟩ := HI2.out.ownP.row
    have HRP := Lib.hid HI2.out.ownP.rowOf
    have hr0 : Row w1 (fun t => t = 42) 2 Ap (s.pairs.map Pr.cells) := HI2.out.ownP.rowOf
    clear hrowP hAl hlt0 s0 s1 s2 s3 s4 o0 o2 o3 o4
    go_loopw [8, 102] (fun v8 i wr => ∃ (k : Nat) (A8 : Option Addr) (c8 : Nat), k ≤ s.pairs.length ∧ i = .int .i64 k ∧ v8 = .slice A8 (scanP (s.pairs.take k) q.key).length c8 ∧ Below w1.heap.size w1 wr ∧ Hid (Own wr w1.heap.size 9 1 (.slice A8 (scanP (s.pairs.take k) q.key).length c8) ((scanP (s.pairs.take k) q.key).map strC)))
      (fun _ i _ => s.pairs.length - (intOf i).toNat)
    case atStart => exact ⟨0, none, 0, Nat.zero_le _, rfl, rfl, Below.refl _ _, Own.nil _ _ _ _⟩
    case round =>
      obtain ⟨k, A8, c8, hkk, rfl, rfl, hbel, HO8⟩ := hrel
      have hs := hbel.size
      by_cases hlt : k < s.pairs.length
      · obtain ⟨g, off, hA, hgb, hc⟩ := hr0.at (k := k) (by rw [List.length_map]; exact hlt)
        rw [List.getElem_map] at hc
        have e0 := cell_later hbel (hc 0 _ rfl)
        have e1 := cell_later hbel (hc 1 _ rfl)
        have o1r := cell_later hbel o1
        have hzr : w.heap.size < wr.heap.size := by omega
        have hzgr : g < wr.heap.size := by omega
        obtain ⟨pk, hpk⟩ : ∃ pk, pk = s.pairs[k] := ⟨_, rfl⟩
        rw [← hpk] at e0 e1
        simp only [Nat.add_zero] at e0
        have hki : (k : Int) < s.pairs.length := by omega
        subst hA
        clear hc hgb hr0
        have hst := scan_step s.pairs q.key k hlt
        rw [← hpk] at hst
        clear hpk
        go_wp2_with fail
        refine (pre_any pk.key q.key _).mono ?_
        rintro e w3 ⟨rfl, hb3⟩
        have HB3 := Lib.hid (hbel.trans (((Below.refl wr.heap.size wr).alloc (Nat.le_refl _) _).trans (hb3.mono (by simp)) |>.mono hs))
        have HO3 := Lib.hid (HO8.out.below (((Below.refl wr.heap.size wr).alloc (Nat.le_refl _) _).trans (hb3.mono (by simp))))
        have e2 : w3.cell? ⟨wr.heap.size, 0, none⟩ = some (.string pk.key) := cell_later hb3 (by rw [cell_of_row _ _ _ _ _ _ (heap_alloc_last _ _)]; rfl)
        have hz3 : wr.heap.size < w3.heap.size := by have := hb3.size; rw [World.size_alloc] at this; omega
        clear hb3 e0 e1 o1r
        cases hp : hasPre pk.key q.key
        · rw [hp] at hst
          have hp := Lib.hid hp
          go_wp2_with fail
          go_roundw
          case rel => exact ⟨k + 1, A8, c8, by omega, by go_num, by rw [hst]; rfl, HB3.out, by rw [hst]; exact HO3.out⟩
          case measure => simp only [intOf]; omega
        · rw [hp] at hst
          have hp := Lib.hid hp
          have hlen : (scanP (s.pairs.take k) q.key).length ≤ 1000000 := by
            have : (scanP (s.pairs.take k) q.key).length ≤ (s.pairs.take k).length := by rw [scanP, List.length_map]; exact List.length_filter_le _ _
            rw [List.length_take] at this; omega
          go_wp2_with (at_builtin; refine appendOwn rfl (.tmp 111) (.tmp 114) 34 rfl w1.heap.size 9 1 16 el9 _ ((scanP (s.pairs.take k) q.key).map strC) [[.string pk.key]] rfl ?own (some _) 1 1 rfl rfl (fun t => t = 9) ?row ?len ?one ?c3 ?c4 ?c5 ?_)
          case own => exact HO3.out.below ((Below.refl _ _).alloc (Nat.le_refl _) _)
          case row => exact row_lit w3 9 1 [[.string pk.key]] _ (by intro y hy; simp at hy; subst hy; rfl) rfl
          case len => intro y hy; simp at hy; subst hy; rfl
          case one => intro y hy u hu; simp at hy; subst hy; simp at hu; subst hu; rfl
          case c3 => simp [maxLen]; omega
          case c4 => simp; omega
          case c5 => rw [World.size_alloc]; have := HB3.out.size; omega
          intro v' w6 hov6 hg6 _
          obtain ⟨A6, c6, hv6, hc6, _⟩ := hov6.row
          subst hv6
          have hcc : (scanP (s.pairs.take k) q.key).map strC ++ [[Value.string pk.key]] = (scanP (s.pairs.take (k + 1)) q.key).map strC := by rw [hst]; simp [strC]
          rw [hcc, List.length_map] at hov6
          rw [hcc, List.length_map]
          have HB6 := Lib.hid (show Below w1.heap.size w1 w6 from (HB3.out.alloc (by have := HB3.out.size; omega) _).grown hg6 (by rw [World.size_alloc]; have := HB3.out.size; omega) (fun g hg => (HO3.out.base_le g hg).1))
          have HO6 := Lib.hid hov6
          clear hov6 hg6 hcc
          go_wp2_with fail
          go_roundw
          case rel => exact ⟨k + 1, A6, c6, by omega, by go_num, rfl, HB6.out, HO6.out⟩
          case measure => simp only [intOf]; omega
      · obtain rfl : k = s.pairs.length := by omega
        have hta : s.pairs.take s.pairs.length = s.pairs := List.take_length
        rw [hta] at HO8 ⊢
        obtain ⟨_, _, hv8, hc8, _⟩ := HO8.out.row
        injection hv8 with _ _ hv8
        rw [List.length_map, ← hv8] at hc8
        go_wp2_with fail
        go_ret2
        exact DoesPost.of (vals := scanP s.pairs q.key) HI.out (HB.out.trans (hbel.mono (Nat.le_of_lt hzw))) hbw (by simp [doesS, hk]) (by simp [doesC, hk]) (by simp [doesV, hk]) rfl hc8 HO8.out.rowOf
  by_cases h6 : q.kind = 6
  · have hk := h6
    rw [hk] at o0
    have HE1 := HE.out.1
    have HE2 := HE.out.2
    go_wp2_with fail
    refine (itoa_any base s.epoch HE1 HE2 w1 (HT.out.below (HB.out.mono hbw))).mono ?_
    rintro e w2 ⟨rfl, hb2⟩
    have HB2 := Lib.hid (HB.out.trans (hb2.mono (Nat.le_of_lt hzw)))
    have HI3 := Lib.hid (HI2.out.below hb2)
    have hzg2 : gs < w2.heap.size := heap_lt HI3.out.blk
    clear s0 s1 s2 s3 s4 o0 o1 o2 o3 o4 HE1 HE2
    obtain ⟨s0, s1, s2, s3, s4⟩ := four HI3.out.blk
    have hz2 : w.heap.size < w2.heap.size := by have := hb2.size; omega
    go_wp2_with fail
    obtain ⟨w3, hw3⟩ : ∃ w3, w3 = w2.alloc (.cells #[.string (itoaB s.epoch)] 9) := ⟨_, rfl⟩
    have HB3 := Lib.hid (show Below w.heap.size w w3 by rw [hw3]; exact HB2.out.alloc (Nat.le_of_lt hz2) _)
    have hr0 := HI3.out.ownM.rowOf.below (show Below w2.heap.size w2 w3 by rw [hw3]; exact (Below.refl _ _).alloc (Nat.le_refl _) _)
    have HO0 := Lib.hid (show Own w3 w2.heap.size 9 1 (.slice (some ⟨w2.heap.size, 0, none⟩) 1 1) ((lstV s 0).map strC) by
      rw [hw3]; exact own_lit w2 _ 9 1 1 [[.string (itoaB s.epoch)]] _ (Nat.le_refl _) rfl (by simp [maxLen]) (by intro y hy; simp at hy; subst hy; rfl) rfl)
    have hw32 : w2.heap.size < w3.heap.size := by rw [hw3, World.size_alloc]; omega
    rw [← hw3]
    clear hw3 s0 s1 s2 s3 s4 hb2
    go_loopw [8, 132] (fun v8 i wr => ∃ (k : Nat) (A8 : Option Addr) (c8 : Nat), k ≤ s.mbs.length ∧ i = .int .i64 k ∧ v8 = .slice A8 (k + 1) c8 ∧ Below w2.heap.size w3 wr ∧ Hid (Below w3.heap.size w3 wr ∨ True) ∧ Hid (Row wr (fun t => t = 84) 34 Am (s.mbs.map Mb.cells)) ∧ Hid (Own wr w2.heap.size 9 1 (.slice A8 (k + 1) c8) ((lstV s k).map strC)))
      (fun _ i _ => s.mbs.length - (intOf i).toNat)
    case atStart => exact ⟨0, _, _, Nat.zero_le _, rfl, rfl, Below.refl _ _, Or.inr trivial, hr0, HO0.out⟩
    case round =>
      obtain ⟨k, A8, c8, hkk, rfl, rfl, hbel, _, HR, HO8⟩ := hrel
      have hs := hbel.size
      by_cases hlt : k < s.mbs.length
      · obtain ⟨blk, off, hA, hblk, hc0⟩ := HR.out.range (mb_at hlt)
        subst hA
        have HC := Lib.hid hc0
        clear hc0
        have hki : (k : Int) < s.mbs.length := by omega
        have hst : ((lstV s (k + 1)).map strC) = ((lstV s k).map strC) ++ [[.string (itoaB (mbOf s.mbs k).id)]] := by
          rw [lst_step s k hlt, List.map_append]; rfl
        have hlen : ((lstV s k).map strC).length = k + 1 := by rw [List.length_map]; exact lst_len s k hkk
        have HST := Lib.hid hst
        have HLEN := Lib.hid hlen
        have HD1 := (HD.out k).1
        have HD2 := (HD.out k).2
        clear hst hlen hr0
        go_wp2_with (first | (with_reducible refine loadM rfl 84 _ rfl blk _ rfl 34 _ (Mb.len _) _ HC.out Tryd.underlying84 rfl size84 (mbOf s.mbs _).arr rfl ?_) | (with_reducible refine storeNew rfl 84 _ _ rfl rfl (mbOf s.mbs _).arr rfl 84 _ 34 (Mb.arrSize _) size84 rfl (Mb.ones _) ?_))
        have hBA := Lib.hid ((Below.refl wr.heap.size wr).alloc (Nat.le_refl _) (.cells (mbOf s.mbs k).arr 84))
        refine (itoa_any base (mbOf s.mbs k).id HD1 HD2 _ (HT.out.below ((HB3.out.mono hbw).trans ((hbel.mono (by omega)).trans (hBA.out.mono (by omega)))))).mono ?_
        rintro e w4 ⟨rfl, hb4⟩
        have HB4 := Lib.hid (hBA.out.trans (hb4.mono (by simp)))
        have hs4 := HB4.out.size
        have hO4 := Lib.hid (HO8.out.below HB4.out)
        clear hb4
        go_wp2_with (at_builtin; refine appendOwn rfl (.tmp 136) (.tmp 140) 34 rfl w2.heap.size 9 1 16 el9 _ ((lstV s k).map strC) [[.string (itoaB (mbOf s.mbs k).id)]] rfl ?own (some _) 1 1 rfl rfl (fun t => t = 9) ?row ?len ?one ?c3 ?c4 ?c5 ?_)
        case own => exact hO4.out.below ((Below.refl _ _).alloc (Nat.le_refl _) _)
        case row => exact row_lit w4 9 1 [[.string (itoaB (mbOf s.mbs k).id)]] _ (by intro y hy; simp at hy; subst hy; rfl) rfl
        case len => intro y hy; simp at hy; subst hy; rfl
        case one => intro y hy u hu; simp at hy; subst hy; simp at hu; subst hu; rfl
        case c3 => rw [HLEN.out]; simp [maxLen]; omega
        case c4 => rw [HLEN.out]; simp; omega
        case c5 => rw [World.size_alloc]; omega
        intro v' w6 hov6 hg6 _
        obtain ⟨A6, c6, hv6, hc6, _⟩ := hov6.row
        subst hv6
        have hl6 : (((lstV s k).map strC) ++ [[Value.string (itoaB (mbOf s.mbs k).id)]]).length = k + 1 + 1 := by
          rw [List.length_append, HLEN.out]; rfl
        rw [hl6, ← HST.out] at hov6
        rw [hl6]
        have HB6 := Lib.hid (show Below w2.heap.size w3 w6 from (((hbel.trans (HB4.out.mono (by omega))).alloc (by omega) _).grown hg6 (by rw [World.size_alloc]; omega) (fun g hg => (hO4.out.base_le g hg).1)))
        have HO6 := Lib.hid hov6
        have HR6 := Lib.hid (show Row w6 (fun t => t = 84) 34 (some ⟨blk, off, none⟩) (s.mbs.map Mb.cells) from ((HR.out.below HB4.out).below ((Below.refl _ _).alloc (Nat.le_refl _) _)).keep fun b cs t fz hb ht => hg6.block b (heap_lt hb) fun e => by
          obtain ⟨cells, hc⟩ := (hO4.out.below ((Below.refl _ _).alloc (Nat.le_refl _) _)).typed b e.symm
          rw [hb] at hc
          cases hc
          cases ht)
        clear hov6 hg6 hl6
        go_wp2_with fail
        go_roundw
        case rel => exact ⟨k + 1, A6, c6, by omega, by go_num, rfl, HB6.out, Or.inr trivial, HR6.out, HO6.out⟩
        case measure => simp only [intOf]; omega
      · obtain rfl : k = s.mbs.length := by omega
        obtain ⟨_, _, hv8, hc8, _⟩ := HO8.out.row
        injection hv8 with _ _ hv8
        rw [← hv8] at hc8
        rw [List.length_map, lst_len s _ (Nat.le_refl _)] at hc8
        go_wp2_with fail
        go_ret2
        exact DoesPost.of (vals := lstV s s.mbs.length) HI.out (HB3.out.trans (hbel.mono (Nat.le_of_lt hz2))) hbw (by simp [doesS, hk]) (by simp [doesC, hk]) (by simp [doesV, hk, lstV]) (lst_len s _ (Nat.le_refl _)) hc8 HO8.out.rowOf
  by_cases h7 : q.kind = 7
  · have hk := h7
    rw [hk] at o0
    go_wp2_with fail
    have hne1 : ¬ gs = w1.heap.size := by omega
    have hne2 : ¬ w1.heap.size = gs := by omega
    have hkeep : ∀ W, Below w1.heap.size w1 W → (W.cell? ⟨gs, 2, none⟩ = some (.int .i64 s.epoch) ∧ W.cell? ⟨gs, 3, none⟩ = some (.slice Am s.mbs.length cm) ∧ (ld52 (.pointer (some ⟨w.heap.size, 4, none⟩))).run Tryd.prog W = .ok (.agg q.chg.arr) W) := fun W hb =>
      ⟨cell_later hb s2, cell_later hb s3, run_ld52 (range_below o4 hb hzw)⟩
    have KEEP := Lib.hid hkeep
    have hs0 : Below w1.heap.size w1 w1.drew := (Below.refl _ _).drew
    have HS0 := Lib.hid hs0
    have HRM := Lib.hid (HI2.out.ownM.rowOf.below hs0)
    have HRM2 := Lib.hid (fun (o : Obj) => HI2.out.ownM.rowOf.below (hs0.alloc (Nat.le_refl _) o))
    clear hkeep s0 s1 s2 s3 s4 o0 o1 o2 o3 o4 hs0
    by_cases hc0 : cfgCode s.epoch s.mbs q.chg = 0
    · have hep := goodM_sizes (cfg_good hc0)
      have hepk : IntKind.i64.wrap (s.epoch + 1) = s.epoch + 1 := IntWalk.i64_in _ (by omega)
      have hc0 := Lib.hid hc0
      go_region_held3 (fun W => W.cell? ⟨gs, 2, none⟩ = some (.int .i64 s.epoch) ∧ W.cell? ⟨gs, 3, none⟩ = some (.slice Am s.mbs.length cm) ∧ (ld52 (.pointer (some ⟨w.heap.size, 4, none⟩))).run Tryd.prog W = .ok (.agg q.chg.arr) W)
        (first
          | exact KEEP.out _ HS0.out
          | exact KEEP.out _ (HS0.out.alloc (Nat.le_refl _) _)
          | exact KEEP.out _ HBX.out
          | exact KEEP.out _ (HBX.out.alloc hbx _)
          | exact KEEP.out _ HBY.out
          | exact KEEP.out _ ((HBY.out.setCell (p := ⟨w1.heap.size, 0, none⟩) (Nat.le_refl _) _).setCell (p := ⟨w1.heap.size, 1, none⟩) (Nat.le_refl _) _))
        (first
          | (go_at_call 51; refine (cap_any _ _ _ _ _ s.mbs q.chg _ rfl HRM.out b2).mono ?_; rintro e w2 ⟨hp1, hp2, hb2⟩; obtain ⟨A2, c2, rfl, hlc, ho2⟩ := hp2 hc0.out; have HO2 := Lib.hid ho2; clear ho2; have HBX := Lib.hid (HS0.out.trans hb2); have hbx := HBX.out.size; clear hp1 hp2 hb2)
          | (go_at_call 51; refine (cap_any _ _ _ _ _ s.mbs q.chg _ rfl (HRM2.out _) b2).mono ?_; rintro e w2 ⟨hp1, hp2, hb2⟩; obtain ⟨A2, c2, rfl, hlc, ho2⟩ := hp2 hc0.out; have HO2 := Lib.hid ho2; clear ho2; have HBY := Lib.hid ((HS0.out.alloc (Nat.le_refl _) _).trans (hb2.mono (by rw [World.size_alloc]; exact Nat.le_succ _))); have kN : w2.heap[w1.heap.size]? = some (.cells #[.int .i64 0, .slice none 0 0] 26 (0, 0)) := blk_later hb2 (heap_alloc_last _ _); obtain ⟨n0, n1, n2⟩ := two kN; clear hp1 hp2 hb2))
      · obtain ⟨W, hW⟩ : ∃ W, W = (w2.alloc (.cells #[.int .i64 (s.epoch + 1), .slice A2 (cfgMs s.mbs q.chg).length c2] 26)) := ⟨_, rfl⟩
        have HBW := Lib.hid (show Below w1.heap.size w1 W by rw [hW]; exact (HBX.out.alloc hbx _))
        have HOW := Lib.hid (show Own W base 84 34 (.slice A2 (cfgMs s.mbs q.chg).length c2) ((cfgMs s.mbs q.chg).map Mb.cells) by rw [hW]; exact (HO2.out.below ((Below.refl _ _).alloc (Nat.le_refl _) _)).lower (by first | (simp only [World.size_drew]; omega) | (simp only [World.size_alloc, World.size_drew]; omega)))
        have HBK := Lib.hid (show W.heap[w2.heap.size]? = some (.cells #[.int .i64 (s.epoch + 1), .slice A2 (cfgMs s.mbs q.chg).length c2] 26 (0, 0)) by rw [hW]; exact heap_alloc_last _ _)
        have HIW := Lib.hid (HI2.out.below HBW.out)
        rw [← hW]
        clear hW
        obtain ⟨s0, s1, s2, s3, s4⟩ := four HIW.out.blk
        obtain ⟨n0, n1, n2⟩ := two HBK.out
        go_wp2_with fail
        go_ret2
        have hgs : base ≤ gs := hg
        refine ⟨none, 0, by simp [doesC, doesV, hk, hc0.out], by simp [doesV, hk], by simp [doesV, hk]; exact Row.nil _ _ _ _, ⟨Ap, cp, A2, c2, ?_⟩, ?_, fun k o hko hne' hty => ?_⟩
        · rw [doesS, if_neg (by omega), if_neg (by omega), if_neg (by omega), if_pos hk, if_pos hc0.out]
          exact ⟨blk_set (blk_set HIW.out.blk 2 _) 3 _, HIW.out.capP, hlc, (HIW.out.ownP.set HIW.out.blk (by decide) 2 _).set (blk_set HIW.out.blk 2 _) (by decide) 3 _, (HOW.out.set HIW.out.blk (by decide) 2 _).set (blk_set HIW.out.blk 2 _) (by decide) 3 _⟩
        · exact (((HB.out.trans (HBW.out.mono (Nat.le_of_lt hzw))).mono hbw).setCell (p := ⟨gs, 2, none⟩) hg _).setCell (p := ⟨gs, 3, none⟩) hg _
        · exact (Below.heap_setCell _ ⟨gs, 3, none⟩ _ k hne').trans ((Below.heap_setCell _ ⟨gs, 2, none⟩ _ k hne').trans (blk_later HBW.out (blk_later HB.out hko)))
      · obtain ⟨W, hW⟩ : ∃ W, W = ((w2.setCell ⟨w1.heap.size, 0, none⟩ (.int .i64 (s.epoch + 1))).setCell ⟨w1.heap.size, 1, none⟩ (.slice A2 (cfgMs s.mbs q.chg).length c2)) := ⟨_, rfl⟩
        have HBW := Lib.hid (show Below w1.heap.size w1 W by rw [hW]; exact ((HBY.out.setCell (p := ⟨w1.heap.size, 0, none⟩) (Nat.le_refl _) _).setCell (p := ⟨w1.heap.size, 1, none⟩) (Nat.le_refl _) _))
        have HOW := Lib.hid (show Own W base 84 34 (.slice A2 (cfgMs s.mbs q.chg).length c2) ((cfgMs s.mbs q.chg).map Mb.cells) by rw [hW]; exact ((HO2.out.set kN (by decide) 0 _).set (blk_set kN 0 _) (by decide) 1 _).lower (by first | (simp only [World.size_drew]; omega) | (simp only [World.size_alloc, World.size_drew]; omega)))
        have HBK := Lib.hid (show W.heap[w1.heap.size]? = some (.cells #[.int .i64 (s.epoch + 1), .slice A2 (cfgMs s.mbs q.chg).length c2] 26 (0, 0)) by rw [hW]; exact blk_set (blk_set kN 0 _) 1 _)
        have HIW := Lib.hid (HI2.out.below HBW.out)
        rw [← hW]
        clear hW
        obtain ⟨s0, s1, s2, s3, s4⟩ := four HIW.out.blk
        obtain ⟨n0, n1, n2⟩ := two HBK.out
        go_wp2_with fail
        go_ret2
        have hgs : base ≤ gs := hg
        refine ⟨none, 0, by simp [doesC, doesV, hk, hc0.out], by simp [doesV, hk], by simp [doesV, hk]; exact Row.nil _ _ _ _, ⟨Ap, cp, A2, c2, ?_⟩, ?_, fun k o hko hne' hty => ?_⟩
        · rw [doesS, if_neg (by omega), if_neg (by omega), if_neg (by omega), if_pos hk, if_pos hc0.out]
          exact ⟨blk_set (blk_set HIW.out.blk 2 _) 3 _, HIW.out.capP, hlc, (HIW.out.ownP.set HIW.out.blk (by decide) 2 _).set (blk_set HIW.out.blk 2 _) (by decide) 3 _, (HOW.out.set HIW.out.blk (by decide) 2 _).set (blk_set HIW.out.blk 2 _) (by decide) 3 _⟩
        · exact (((HB.out.trans (HBW.out.mono (Nat.le_of_lt hzw))).mono hbw).setCell (p := ⟨gs, 2, none⟩) hg _).setCell (p := ⟨gs, 3, none⟩) hg _
        · exact (Below.heap_setCell _ ⟨gs, 3, none⟩ _ k hne').trans ((Below.heap_setCell _ ⟨gs, 2, none⟩ _ k hne').trans (blk_later HBW.out (blk_later HB.out hko)))
    · have hc0 := Lib.hid hc0
      go_region_held3 (fun W => W.cell? ⟨gs, 2, none⟩ = some (.int .i64 s.epoch) ∧ W.cell? ⟨gs, 3, none⟩ = some (.slice Am s.mbs.length cm) ∧ (ld52 (.pointer (some ⟨w.heap.size, 4, none⟩))).run Tryd.prog W = .ok (.agg q.chg.arr) W)
        (first
          | exact KEEP.out _ HS0.out
          | exact KEEP.out _ (HS0.out.alloc (Nat.le_refl _) _)
          | exact KEEP.out _ HBX.out
          | exact KEEP.out _ (HBX.out.alloc hbx _)
          | exact KEEP.out _ HBY.out
          | exact KEEP.out _ ((HBY.out.setCell (p := ⟨w1.heap.size, 0, none⟩) (Nat.le_refl _) _).setCell (p := ⟨w1.heap.size, 1, none⟩) (Nat.le_refl _) _))
        (first
          | (go_at_call 51; refine (cap_any _ _ _ _ _ s.mbs q.chg _ rfl HRM.out b2).mono ?_; rintro e w2 ⟨hp1, hp2, hb2⟩; have hp3 := hp1 hc0.out; subst hp3; have HBX := Lib.hid (HS0.out.trans hb2); have hbx := HBX.out.size; clear hp1 hp2 hb2)
          | (go_at_call 51; refine (cap_any _ _ _ _ _ s.mbs q.chg _ rfl (HRM2.out _) b2).mono ?_; rintro e w2 ⟨hp1, hp2, hb2⟩; have hp3 := hp1 hc0.out; subst hp3; have HBY := Lib.hid ((HS0.out.alloc (Nat.le_refl _) _).trans (hb2.mono (by rw [World.size_alloc]; exact Nat.le_succ _))); have kN : w2.heap[w1.heap.size]? = some (.cells #[.int .i64 0, .slice none 0 0] 26 (0, 0)) := blk_later hb2 (heap_alloc_last _ _); obtain ⟨n0, n1, n2⟩ := two kN; clear hp1 hp2 hb2))
      · have hc1 := hc0.out
        go_wp2_with fail
        go_ret2
        exact DoesPost.of (vals := []) HI.out (HB.out.trans ((HBX.out.alloc hbx _).mono (Nat.le_of_lt hzw))) hbw (by simp [doesS, hk, hc0.out]) (by simp [doesC, hk, hc0.out]) (by simp [doesV, hk, hc0.out]) rfl (Nat.le_refl _) (Row.nil _ _ _ _)
      · have hc1 := hc0.out
        go_wp2_with fail
        go_ret2
        exact DoesPost.of (vals := []) HI.out (HB.out.trans (((HBY.out.setCell (p := ⟨w1.heap.size, 0, none⟩) (Nat.le_refl _) _).setCell (p := ⟨w1.heap.size, 1, none⟩) (Nat.le_refl _) _).mono (Nat.le_of_lt hzw))) hbw (by simp [doesS, hk, hc0.out]) (by simp [doesC, hk, hc0.out]) (by simp [doesV, hk, hc0.out]) rfl (Nat.le_refl _) (Row.nil _ _ _ _)
  have ho1 : ¬ q.kind = 1 := by omega
  go_wp2_with fail
  go_ret2
  exact DoesPost.of (vals := []) HI.out HB.out hbw (by simp [doesS, h1, h2, h3, h4, h5, h6, h7]) (by simp [doesC, h1, h2, h3, h4, h5, h6, h7]) (by simp [doesV, h1, h2, h3, h4, h5, h6, h7]) rfl (Nat.le_refl _) (Row.nil _ _ _ _)
end Go.Proofs.YtchnnplcpidkiaaDoor
