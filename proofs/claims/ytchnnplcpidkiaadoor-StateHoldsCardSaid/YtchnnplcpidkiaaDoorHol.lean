/-
  The walk of StateHolds: whatever the registry, the requests and the key: it returns true.
-/
import Derived.Test.YtchnnplcpidkiaaDoorFrm
import Derived.Test.YtchnnplcpidkiaaDoorPlw
namespace Go.Proofs.YtchnnplcpidkiaaDoor
open Go.RowKit

/-! ### the plain law -/
def isIn (e : Option (Option ByteArray)) : Bool := match e with | none => false | some none => false | some (some _) => true
theorem get_apply_other {s : St} (h : risesS s = true) (q : Req) {key : ByteArray} (hk : act s q = false ∨ (newR s q).code ≠ 0 ∨ q.key ≠ key ∨ (q.kind ≠ 2 ∧ q.kind ≠ 3 ∧ q.kind ≠ 4)) :
    hasP s.pairs key = hasP (applyS s q).pairs key ∧ getV s.pairs key = getV (applyS s q).pairs key := by
  cases ha : act s q
  · rw [apply_idle ha]; exact ⟨rfl, rfl⟩
  obtain ⟨h1, h2⟩ := rises_iff.1 h
  obtain ⟨d1, d2⟩ := doesS_pairs h1 q
  rw [(apply_act ha).1]
  refine look_congr h1 d1 fun v => ?_
  rw [d2]
  by_cases hne : q.key = key
  · have he : effP s.pairs q = none := by
      rcases hk with hk | hk | hk | ⟨k2, k3, k4⟩
      · rw [ha] at hk; cases hk
      · have hc : doesC s q ≠ 0 := hk
        unfold doesC at hc
        unfold effP
        by_cases k2 : q.kind = 2
        · rw [if_pos k2]
          rw [if_neg (by omega), if_pos k2, putC] at hc
          cases hh : hasP s.pairs q.key
          · rw [hh] at hc
            by_cases hl : 256 ≤ s.pairs.length
            · simp [hl]
            · simp [hl] at hc
          · rw [hh] at hc; simp at hc
        rw [if_neg k2]
        by_cases k3 : q.kind = 3
        · rw [if_pos k3]
          rw [if_neg (by omega), if_neg k2, if_pos k3] at hc
          cases hh : hasP s.pairs q.key
          · simp
          · rw [hh] at hc; simp at hc
        rw [if_neg k3]
        by_cases k4 : q.kind = 4
        · rw [if_pos k4]
          rw [if_neg (by omega), if_neg k2, if_neg k3, if_pos k4] at hc
          cases hh : hasP s.pairs q.key
          · simp
          · rw [hh] at hc
            cases hs : sameB (valOf s.pairs (findP s.pairs q.key)) q.old
            · simp
            · rw [hs] at hc; simp at hc
        rw [if_neg k4]
      · exact absurd hne hk
      · unfold effP
        rw [if_neg k2, if_neg k3, if_neg k4]
    rw [he]; exact Iff.rfl
  · cases he : effP s.pairs q with
    | none => exact Iff.rfl
    | some o =>
      cases o with
      | none =>
        show _ ↔ _ ∧ _
        exact ⟨fun hm => ⟨hm, fun e => hne (show q.key = key from e.symm)⟩, fun hm => hm.1⟩
      | some u =>
        show _ ↔ _ ∨ _ ∧ _
        constructor
        · intro hm; exact .inr ⟨hm, fun e => hne (show q.key = key from e.symm)⟩
        · rintro (hm | hm)
          · exact absurd (congrArg Pr.key hm).symm hne
          · exact hm.1
theorem get_apply_put {s : St} (h : risesS s = true) (q : Req) (ha : act s q = true) (hc : (newR s q).code = 0) (hk : q.kind = 2 ∨ q.kind = 4) :
    hasP (applyS s q).pairs q.key = true ∧ getV (applyS s q).pairs q.key = q.val := by
  obtain ⟨h1, h2⟩ := rises_iff.1 h
  obtain ⟨d1, d2⟩ := doesS_pairs h1 q
  rw [(apply_act ha).1]
  have hc : doesC s q = 0 := hc
  have he : effP s.pairs q = some (some q.val) := by
    unfold doesC at hc
    unfold effP
    rcases hk with k2 | k4
    · rw [if_pos k2]
      rw [if_neg (by omega), if_pos k2, putC] at hc
      cases hh : hasP s.pairs q.key
      · rw [hh] at hc
        by_cases hl : 256 ≤ s.pairs.length
        · simp [hl] at hc
        · simp [hl]
      · simp
    · rw [if_neg (by omega), if_neg (by omega), if_pos k4]
      rw [if_neg (by omega), if_neg (by omega), if_neg (by omega), if_pos k4] at hc
      cases hh : hasP s.pairs q.key
      · rw [hh] at hc; simp at hc
      · rw [hh] at hc
        cases hs : sameB (valOf s.pairs (findP s.pairs q.key)) q.old
        · rw [hs] at hc; simp at hc
        · simp
  have hm : (⟨q.key, q.val⟩ : Pr) ∈ (doesS s q).pairs := by rw [d2, he]; exact .inl rfl
  exact ⟨(has_iff d1).2 ⟨_, hm⟩, (get_of d1 hm).1⟩
theorem get_apply_del {s : St} (h : risesS s = true) (q : Req) (ha : act s q = true) (hc : (newR s q).code = 0) (hk : q.kind = 3) :
    hasP (applyS s q).pairs q.key = false ∧ getV (applyS s q).pairs q.key = ⟨#[]⟩ := by
  obtain ⟨h1, h2⟩ := rises_iff.1 h
  obtain ⟨d1, d2⟩ := doesS_pairs h1 q
  rw [(apply_act ha).1]
  have hc : doesC s q = 0 := hc
  have he : effP s.pairs q = some none := by
    unfold doesC at hc
    unfold effP
    rw [if_neg (by omega), if_pos hk]
    rw [if_neg (by omega), if_neg (by omega), if_pos hk] at hc
    cases hh : hasP s.pairs q.key
    · rw [hh] at hc; simp at hc
    · simp
  have hn : hasP (doesS s q).pairs q.key = false := by
    cases hq : hasP (doesS s q).pairs q.key
    · rfl
    · obtain ⟨v, hv⟩ := (has_iff d1).1 hq
      rw [d2, he] at hv
      exact absurd rfl hv.2
  exact ⟨hn, by rw [show getV (doesS s q).pairs q.key = _ from rfl, getV, if_neg (by rw [hn]; decide)]; rfl⟩

/-! ### the walk -/
structure HoI (w wr : World) (X : Nat) (Ap : Option Addr) (cp : Nat) (Ar : Option Addr) (cr : Nat) (Am : Option Addr) (cm : Nat) (st : St) : Prop where
  out : wr.heap[X]? = some (.cells #[.slice Ap st.pairs.length cp, .slice Ar st.reps.length cr, .int .i64 st.epoch, .slice Am st.mbs.length cm] 28 (0, 0))
  sx : SX (fun k => k = X) wr Ap Ar Am st
  rise : risesS st = true
  bel : Below w.heap.size w wr

set_option maxHeartbeats 4000000 in
set_option maxRecDepth 100000 in
theorem holds_any (Ap Ar Am : Option Addr) (cp cr cm : Nat) (s : St) (T : TypeId → Prop) (A : Option Addr) (n c : Nat) (qs : List Req) (key : ByteArray) (w : World)
    (h : SV w Ap Ar Am s) (hz : SZ s) (hep : -9223372036854775808 ≤ s.epoch ∧ s.epoch ≤ 9223372036854775807) (hid : ∀ m ∈ s.mbs, -9223372036854775808 ≤ m.id ∧ m.id ≤ 9223372036854775807)
    (hn : qs.length = n) (hr : Row w T 42 A (qs.map Req.cells)) (hrz : RZ qs) (ht : Tab w.heap.size w) :
    Calls Tryd.prog 5 #[SV.val Ap cp Ar cr Am cm s, .slice A n c, .string key] w (AlivePost w) := by
  have HA := Lib.hid h
  have HZ := Lib.hid hz
  have HEP := Lib.hid hep
  have HID := Lib.hid hid
  have HN := Lib.hid hn
  have HR := Lib.hid hr
  have HRZ := Lib.hid hrz
  have HT := Lib.hid ht
  clear h hz hep hid hn hr hrz ht
  have HB0 := Lib.hid (show Below w.heap.size w (w.alloc (.cells #[.slice Ap s.pairs.length cp, .slice Ar s.reps.length cr, .int .i64 s.epoch, .slice Am s.mbs.length cm] 28)) from (Below.refl _ _).alloc (Nat.le_refl _) _)
  have kA := heap_alloc_last w (.cells #[.slice Ap s.pairs.length cp, .slice Ar s.reps.length cr, .int .i64 s.epoch, .slice Am s.mbs.length cm] 28)
  go_enter Tryd.func5, Tryd.ntmps5
  go_wp2_with fail
  refine (alive_any _ ((HT.out.below HB0.out).mono (by rw [World.size_alloc]; omega))).mono ?_
  rintro e w1 ⟨rfl, hb1⟩
  have HB1 := Lib.hid (HB0.out.trans (hb1.mono (by rw [World.size_alloc]; omega)))
  have K1 := Lib.hid (blk_later hb1 kA)
  clear hb1 kA HB0
  obtain ⟨a0, a1, a2, a3, a4⟩ := four K1.out
  have z0 : w.heap.size < w1.heap.size := heap_lt K1.out
  go_wp2_with fail
  refine (great_any Ap Ar Am _ cp _ cr _ cm s.epoch s.pairs s.reps s.mbs T A n c qs _ rfl rfl rfl (HA.out.below HB1.out) HZ.out HN.out (HR.out.below HB1.out) HRZ.out).mono ?_
  rintro e w2 ⟨b, rfl, hb, hb2⟩
  have HB2 := Lib.hid (HB1.out.trans (hb2.mono HB1.out.size))
  have K2 := Lib.hid (blk_later hb2 K1.out)
  have HGL := Lib.hid hb
  clear hb hb2 a0 a1 a2 a3 a4 z0
  cases b
  case true =>
    go_wp2_with fail
    go_ret
    exact ⟨rfl, HB2.out⟩
  have HG := Lib.hid (HGL.out rfl)
  clear HGL
  by_cases hkz : key.size ≤ 1024
  case neg =>
    have hkz' : 1024 < (key.size : Int) := by omega
    go_wp2_with fail
    go_ret
    exact ⟨rfl, HB2.out⟩
  have hkz' : ¬ 1024 < (key.size : Int) := by omega
  have BD0 := Lib.hid (HG.out.gb.bd HEP.out HID.out)
  have hn60 : n ≤ 60 := by rw [← HN.out]; exact HG.out.len
  obtain ⟨a0, a1, a2, a3, a4⟩ := four K2.out
  have z0 : w.heap.size < w2.heap.size := heap_lt K2.out
  go_wp2_with fail
  have hX := Lib.hid (show Below w2.heap.size w2 (w2.alloc (.cells #[.slice Ap s.pairs.length cp, .slice Ar s.reps.length cr, .int .i64 s.epoch, .slice Am s.mbs.length cm] 28)) from (Below.refl _ _).alloc (Nat.le_refl _) _)
  refine (Get_any _ Ap _ s.pairs cp _ _ _ key _ rfl (HA.out.p.below (HB2.out.trans (hX.out.mono HB2.out.size))) (Nat.le_trans HG.out.gb.p (by decide))).mono ?_
  rintro e w3 ⟨rfl, hb3⟩
  have hX3 := Lib.hid (hX.out.trans (hb3.mono hX.out.size))
  have KX3 := Lib.hid (blk_later hb3 (heap_alloc_last w2 (.cells #[.slice Ap s.pairs.length cp, .slice Ar s.reps.length cr, .int .i64 s.epoch, .slice Am s.mbs.length cm] 28)))
  have HB3 := Lib.hid (HB2.out.trans (hX3.out.mono HB2.out.size))
  obtain ⟨X, hXX⟩ : ∃ X, X = w2.heap.size := ⟨_, rfl⟩
  rw [← hXX] at KX3
  rw [← hXX]
  have hXw : w.heap.size < X := by omega
  clear hb3 hX hX3 hXX a0 a1 a2 a3 a4 z0 K2
  have HI0 := Lib.hid (show HoI w w3 X Ap cp Ar cr Am cm (allS s (qs.take 0)) from ⟨KX3.out, HA.out.sx HB3.out (fun k e => by omega), HG.out.rises, HB3.out⟩)
  go_wp2_with fail
  clear KX3 HB3
  go_loopw [38, 8, 9] (fun i v b wr => ∃ (k : Nat) (Ap : Option Addr) (cp : Nat) (Ar : Option Addr) (cr : Nat) (Am : Option Addr) (cm : Nat), k ≤ n ∧ i = .int .i64 k ∧ v = .string (getV (allS s (qs.take k)).pairs key) ∧ b = .bool (hasP (allS s (qs.take k)).pairs key) ∧ Hid (HoI w wr X Ap cp Ar cr Am cm (allS s (qs.take k))))
    (fun i _ _ _ => n - (intOf i).toNat)
  case atStart => exact ⟨0, Ap, cp, Ar, cr, Am, cm, Nat.zero_le _, rfl, rfl, rfl, HI0⟩
  case round =>
    clear HI0
    obtain ⟨k, Bp, dp, Br, dr, Bm, dm, hk, rfl, rfl, rfl, HI⟩ := hrel
    have hXr : X < wr.heap.size := heap_lt HI.out.out
    have hsz := HI.out.bel.size
    obtain ⟨o0, o1, o2, o3, o4⟩ := four HI.out.out
    by_cases hlt : k < n
    case neg =>
      obtain rfl : k = n := by omega
      go_wp2_with fail
      go_ret
      exact ⟨rfl, HI.out.bel⟩
    have HBK := Lib.hid (show BdS 1000 (allS s (qs.take k)) from (allS_bd BD0.out (qs.take k)).mono (by rw [List.length_take]; omega))
    have HS1 := Lib.hid (allS_snoc s (qs.take k) (reqOf qs k))
    rw [← take_snoc (by rw [HN.out]; exact hlt)] at HS1
    obtain ⟨g, off, hA, hg, c0⟩ := (HR.out.below HI.out.bel).range (req_at (k := k) (by rw [HN.out]; exact hlt))
    obtain ⟨st, hst⟩ : ∃ st, st = allS s (qs.take k) := ⟨_, rfl⟩
    obtain ⟨q, hq⟩ : ∃ q, q = reqOf qs k := ⟨_, rfl⟩
    rw [← hq] at c0 HS1
    rw [← hst] at HBK HS1 HI o0 o1 o2 o3 ⊢
    subst hA
    have HC := Lib.hid c0
    have hki : (k : Int) < n := by omega
    clear hst hq c0
    go_wp2_with (first
      | (with_reducible refine loadM rfl 56 _ rfl g (off + k * 42) rfl 42 _ (Req.len _) _ HC.out Tryd.underlying56 rfl size56 q.arr rfl ?_)
      | (with_reducible refine storeNew rfl 56 _ _ rfl rfl q.arr rfl 56 _ 42 (Req.arrSize _) size56 rfl (Req.ones _) ?_))
    -- Last
    have hW1 := Lib.hid (show Below wr.heap.size wr (wr.alloc (.cells q.arr 56)) from (Below.refl _ _).alloc (Nat.le_refl _) _)
    refine (Last_any _ _ Br _ st.reps dr _ _ _ q.client _ rfl (HI.out.sx.sv.below hW1.out).r (Nat.le_trans HBK.out.r (by decide)) HBK.out.vk).mono ?_
    rintro e w4 ⟨v4, rfl, ⟨Av, cv, rfl, hcv, hov⟩, hb4⟩
    obtain ⟨la, hla⟩ : ∃ la, la = lastR st.reps q.client := ⟨_, rfl⟩
    rw [← hla]
    have HLA := Lib.hid hla
    have hW4 := Lib.hid (hW1.out.trans (hb4.mono hW1.out.size))
    have KQ4 := Lib.hid (blk_later hb4 (heap_alloc_last wr (.cells q.arr 56)))
    clear hb4 hov hcv hla hW1
    obtain ⟨Q, hQ⟩ : ∃ Q, Q = wr.heap.size := ⟨_, rfl⟩
    rw [← hQ] at KQ4 hXr
    rw [← hQ]
    have KX4 := Lib.hid (blk_later hW4.out HI.out.out)
    have SX4 := Lib.hid (HI.out.sx.below hW4.out)
    have RI := Lib.hid HI.out.rise
    have HB4 := Lib.hid (HI.out.bel.trans (hW4.out.mono hsz))
    clear hW4 hQ o0 o1 o2 o3 o4 HI hsz HC hg
    obtain ⟨o0, o1, o2, o3, o4⟩ := four KX4.out
    obtain ⟨x0, x1, x2, x3, x4, x5, x6⟩ := Req.six KQ4.out
    have zQ : Q < w4.heap.size := heap_lt KQ4.out
    have zX : X < w4.heap.size := heap_lt KX4.out
    obtain ⟨L, hL⟩ : ∃ L, L = w4.heap.size := ⟨_, rfl⟩
    have XQ : ∀ W : World, Below w4.heap.size w4 W → W.rangeAt Q 0 q.cells := fun W hb => (Req.six (blk_later hb KQ4.out)).2.2.2.2.2.2
    have HXQ := Lib.hid XQ
    have r1 := HXQ.out _ (show Below w4.heap.size w4 (w4.alloc (.cells #[.int .i64 la.client, .int .i64 la.num, .int .i64 la.code, .slice Av la.vals.length cv] 36)) from (Below.refl _ _).alloc (Nat.le_refl _) _)
    have R1 := Lib.hid r1
    clear XQ r1 x3 x4 x5 x6
    go_wp2_with (first
      | (with_reducible refine loadM rfl 56 _ rfl Q 0 rfl 42 _ (Req.len _) _ R1.out Tryd.underlying56 rfl size56 q.arr rfl ?_))
    have SXL := Lib.hid (SX4.out.below (show Below w4.heap.size w4 (w4.alloc (.cells #[.int .i64 la.client, .int .i64 la.num, .int .i64 la.code, .slice Av la.vals.length cv] 36)) from (Below.refl _ _).alloc (Nat.le_refl _) _))
    have hWL := Lib.hid (show Below w4.heap.size w4 (w4.alloc (.cells #[.int .i64 la.client, .int .i64 la.num, .int .i64 la.code, .slice Av la.vals.length cv] 36)) from (Below.refl _ _).alloc (Nat.le_refl _) _)
    have KL := Lib.hid (heap_alloc_last w4 (.cells #[.int .i64 la.client, .int .i64 la.num, .int .i64 la.code, .slice Av la.vals.length cv] 36))
    rw [← hL] at KL
    have hsL : (w4.alloc (.cells #[.int .i64 la.client, .int .i64 la.num, .int .i64 la.code, .slice Av la.vals.length cv] 36)).heap.size = L + 1 := by rw [World.size_alloc, hL]
    refine (Apply_sv Bp Br Bm dp dr dm 1000 st q _ SXL.out.sv HBK.out (by decide) ((HT.out.below (HB4.out.trans (hWL.out.mono HB4.out.size))).mono (by have := HB4.out.size; omega))).mono ?_
    rintro e w5 ⟨v5, vr, rfl, hos, ⟨Av5, cv5, rfl, hcv5, hrow5⟩, hb5⟩
    rw [hsL] at hos
    obtain ⟨Cp, ep, Cr, er, Cm, em, hv5⟩ := hos.val_eq
    subst hv5
    have hW5 := Lib.hid (hWL.out.trans (hb5.mono (by rw [World.size_alloc]; omega)))
    have HB5 := Lib.hid (HB4.out.trans (hW5.out.mono HB4.out.size))
    have KX5 := Lib.hid (blk_later hW5.out KX4.out)
    have KQ5 := Lib.hid (blk_later hW5.out KQ4.out)
    have KL5 := Lib.hid (blk_later hb5 KL.out)
    have SX5 := Lib.hid (hos.sx (V := fun k => k = X) (fun k e => by omega) (fun k e cs fz hc => by subst e; rw [KX5.out] at hc; cases hc))
    obtain ⟨s', hs'⟩ : ∃ s', s' = applyS st q := ⟨_, rfl⟩
    obtain ⟨r', hr'⟩ : ∃ r', r' = applyR st q := ⟨_, rfl⟩
    rw [← hs'] at SX5 HS1 ⊢
    rw [← hr']
    have HSX := Lib.hid hs'
    have HRX := Lib.hid hr'
    have hL5 : L < w5.heap.size := heap_lt KL5.out
    rw [← hL]
    clear hL hos hrow5 hcv5 hb5 hs' hr' hWL SXL hsL KL o0 o1 o2 o3 o4 x0 x1 x2 zQ zX R1 HXQ
    obtain ⟨o0, o1, o2, o3, o4⟩ := four KX5.out
    obtain ⟨x0, x1, x2, x3, x4, x5, x6⟩ := Req.six KQ5.out
    obtain ⟨l0, l1, l2, l3, l4⟩ := four KL5.out
    have zQ : Q < w5.heap.size := heap_lt KQ5.out
    have zX : X < w5.heap.size := heap_lt KX5.out
    have hX6 := Lib.hid (show Below w5.heap.size w5 ((w5.alloc (.cells #[.slice Cp s'.pairs.length ep, .slice Cr s'.reps.length er, .int .i64 s'.epoch, .slice Cm s'.mbs.length em] 28)).alloc (.cells #[.int .i64 r'.client, .int .i64 r'.num, .int .i64 r'.code, .slice Av5 r'.vals.length cv5] 36)) from ((Below.refl _ _).alloc (Nat.le_refl _) _).alloc (by rw [World.size_alloc]; omega) _)
    have R1 := Lib.hid ((Req.six (blk_later hX6.out KQ5.out)).2.2.2.2.2.2)
    go_wp2_with (first
      | (with_reducible refine loadM rfl 56 _ rfl Q 0 rfl 42 _ (Req.len _) _ R1.out Tryd.underlying56 rfl size56 q.arr rfl ?_))
    refine (goodRef_any q _).mono ?_
    rintro e w6 ⟨rfl, hb6⟩
    have hW6 := Lib.hid (hX6.out.trans (hb6.mono (by simp only [World.size_alloc]; omega)))
    have HB6 := Lib.hid (HB5.out.trans (hW6.out.mono HB5.out.size))
    have KX6 := Lib.hid (blk_later hW6.out KX5.out)
    have KQ6 := Lib.hid (blk_later hW6.out KQ5.out)
    have KL6 := Lib.hid (blk_later hW6.out KL5.out)
    have KY6 := Lib.hid (blk_later hb6 (at2_0 w5 (.cells #[.slice Cp s'.pairs.length ep, .slice Cr s'.reps.length er, .int .i64 s'.epoch, .slice Cm s'.mbs.length em] 28) (.cells #[.int .i64 r'.client, .int .i64 r'.num, .int .i64 r'.code, .slice Av5 r'.vals.length cv5] 36)))
    have KR6 := Lib.hid (blk_later hb6 (at2_1 w5 (.cells #[.slice Cp s'.pairs.length ep, .slice Cr s'.reps.length er, .int .i64 s'.epoch, .slice Cm s'.mbs.length em] 28) (.cells #[.int .i64 r'.client, .int .i64 r'.num, .int .i64 r'.code, .slice Av5 r'.vals.length cv5] 36)))
    have SX6 := Lib.hid (SX5.out.below hW6.out)
    obtain ⟨Y, hY⟩ : ∃ Y, Y = w5.heap.size := ⟨_, rfl⟩
    rw [← hY] at KY6 KR6 zQ zX hL5
    rw [← hY]
    have hXY : ¬ X = Y := by omega
    have hYX : ¬ Y = X := by omega
    clear hb6 hX6 hW6 hY KX5 KQ5 KL5 SX5 R1 o0 o1 o2 o3 o4 x0 x1 x2 x3 x4 x5 x6 l0 l1 l2 l3 l4
    obtain ⟨o0, o1, o2, o3, o4⟩ := four KX6.out
    obtain ⟨x0, x1, x2, x3, x4, x5, x6⟩ := Req.six KQ6.out
    obtain ⟨l0, l1, l2, l3, l4⟩ := four KL6.out
    obtain ⟨r0, r1, r2, r3, r4⟩ := four KR6.out
    obtain ⟨y0, y1, y2, y3, y4⟩ := four KY6.out
    have zY : Y < w6.heap.size := heap_lt KY6.out
    have zQ : Q < w6.heap.size := by omega
    have zX : X < w6.heap.size := by omega
    have zL : L < w6.heap.size := by omega
    have zR : Y + 1 < w6.heap.size := heap_lt KR6.out
    clear x6
    cases hgq : goodQ q
    · have HG1 := Lib.hid (show act st q = false from by rw [act, hgq]; rfl)
      have G1 := Lib.hid (show hasP s'.pairs key = hasP st.pairs key from by rw [HSX.out]; exact (get_apply_other RI.out q (.inl HG1.out)).1.symm)
      have G2 := Lib.hid (show getV s'.pairs key = getV st.pairs key from by rw [HSX.out]; exact (get_apply_other RI.out q (.inl HG1.out)).2.symm)
      go_wp2_with fail
      rw [store4 KX6.out]
      have KX7 := Lib.hid (setRow_heap w6 X _ #[.slice Cp s'.pairs.length ep, .slice Cr s'.reps.length er, .int .i64 s'.epoch, .slice Cm s'.mbs.length em] 28 (0, 0) KX6.out)
      have SX7 := Lib.hid (SX6.out.go (AgV.setRow (V := fun k => k = X) w6 rfl #[.slice Cp s'.pairs.length ep, .slice Cr s'.reps.length er, .int .i64 s'.epoch, .slice Cm s'.mbs.length em]))
      have HB7 := Lib.hid (below_setRow HB6.out (Nat.le_of_lt hXw) #[.slice Cp s'.pairs.length ep, .slice Cr s'.reps.length er, .int .i64 s'.epoch, .slice Cm s'.mbs.length em])
      obtain ⟨w7, hw7⟩ : ∃ x, x = w6.setRow X #[.slice Cp s'.pairs.length ep, .slice Cr s'.reps.length er, .int .i64 s'.epoch, .slice Cm s'.mbs.length em] := ⟨_, rfl⟩
      rw [← hw7] at KX7 SX7 HB7 ⊢
      clear hw7 o0 o1 o2 o3 o4 x0 x1 x2 x3 x4 x5 l0 l1 l2 l3 l4 r0 r1 r2 r3 r4 y0 y1 y2 y3 y4 zY zQ zX zL zR SX6 KX6 KQ6 KL6 KY6 KR6
      obtain ⟨o0, o1, o2, o3, o4⟩ := four KX7.out
      have zX : X < w7.heap.size := heap_lt KX7.out
      have BD7 := Lib.hid (show BdS 1001 s' from by rw [HSX.out]; exact HBK.out.step)
      go_wp2_with fail
      refine (Get_any _ Cp _ s'.pairs ep _ _ _ key _ rfl SX7.out.sv.p (Nat.le_trans BD7.out.p (by decide))).mono ?_
      rintro e w8 ⟨rfl, hb8⟩
      rw [G1.out, G2.out]
      have HB8 := Lib.hid (HB7.out.trans (hb8.mono HB7.out.size))
      have KX8 := Lib.hid (blk_later hb8 KX7.out)
      have SX8 := Lib.hid (SX7.out.below hb8)
      have RI8 := Lib.hid (show risesS s' = true from by rw [HSX.out]; exact apply_rises RI.out q)
      clear hb8 KX7 SX7 zX o0 o1 o2 o3 o4
      obtain ⟨o0, o1, o2, o3, o4⟩ := four KX8.out
      have zX : X < w8.heap.size := heap_lt KX8.out
      go_wp2_with fail
      refine (Rises_any Cp Cr _ ep _ er _ _ s'.pairs s'.reps _ _ _ _ rfl rfl SX8.out.sv.p SX8.out.sv.r (Nat.le_trans BD7.out.p (by decide)) (Nat.le_trans BD7.out.r (by decide))).mono ?_
      rintro e w9 ⟨rfl, hb9⟩
      rw [show (risesP s'.pairs && risesR s'.reps) = true from RI8.out]
      have HI9 := Lib.hid (show HoI w w9 X Cp ep Cr er Cm em s' from ⟨blk_later hb9 KX8.out, SX8.out.below hb9, RI8.out, HB8.out.trans (hb9.mono HB8.out.size)⟩)
      clear hb9
      go_wp2_with fail
      go_roundw
      case rel =>
        refine ⟨k + 1, Cp, ep, Cr, er, Cm, em, by omega, by go_num, ?_, ?_, ?_⟩
        · rw [HS1.out, G2.out]
        · rw [HS1.out, G1.out]
        · rw [HS1.out]; exact HI9
      case measure => simp only [intOf]; omega
    have HGQ := Lib.hid hgq
    by_cases hnm : la.num < q.num
    case neg =>
      have HG1 := Lib.hid (show act st q = false from by rw [act_fresh, HGQ.out, ← HLA.out, decide_eq_false hnm]; rfl)
      have G1 := Lib.hid (show hasP s'.pairs key = hasP st.pairs key from by rw [HSX.out]; exact (get_apply_other RI.out q (.inl HG1.out)).1.symm)
      have G2 := Lib.hid (show getV s'.pairs key = getV st.pairs key from by rw [HSX.out]; exact (get_apply_other RI.out q (.inl HG1.out)).2.symm)
      go_wp2_with fail
      rw [store4 KX6.out]
      have KX7 := Lib.hid (setRow_heap w6 X _ #[.slice Cp s'.pairs.length ep, .slice Cr s'.reps.length er, .int .i64 s'.epoch, .slice Cm s'.mbs.length em] 28 (0, 0) KX6.out)
      have SX7 := Lib.hid (SX6.out.go (AgV.setRow (V := fun k => k = X) w6 rfl #[.slice Cp s'.pairs.length ep, .slice Cr s'.reps.length er, .int .i64 s'.epoch, .slice Cm s'.mbs.length em]))
      have HB7 := Lib.hid (below_setRow HB6.out (Nat.le_of_lt hXw) #[.slice Cp s'.pairs.length ep, .slice Cr s'.reps.length er, .int .i64 s'.epoch, .slice Cm s'.mbs.length em])
      obtain ⟨w7, hw7⟩ : ∃ x, x = w6.setRow X #[.slice Cp s'.pairs.length ep, .slice Cr s'.reps.length er, .int .i64 s'.epoch, .slice Cm s'.mbs.length em] := ⟨_, rfl⟩
      rw [← hw7] at KX7 SX7 HB7 ⊢
      clear hw7 o0 o1 o2 o3 o4 x0 x1 x2 x3 x4 x5 l0 l1 l2 l3 l4 r0 r1 r2 r3 r4 y0 y1 y2 y3 y4 zY zQ zX zL zR SX6 KX6 KQ6 KL6 KY6 KR6
      obtain ⟨o0, o1, o2, o3, o4⟩ := four KX7.out
      have zX : X < w7.heap.size := heap_lt KX7.out
      have BD7 := Lib.hid (show BdS 1001 s' from by rw [HSX.out]; exact HBK.out.step)
      go_wp2_with fail
      refine (Get_any _ Cp _ s'.pairs ep _ _ _ key _ rfl SX7.out.sv.p (Nat.le_trans BD7.out.p (by decide))).mono ?_
      rintro e w8 ⟨rfl, hb8⟩
      rw [G1.out, G2.out]
      have HB8 := Lib.hid (HB7.out.trans (hb8.mono HB7.out.size))
      have KX8 := Lib.hid (blk_later hb8 KX7.out)
      have SX8 := Lib.hid (SX7.out.below hb8)
      have RI8 := Lib.hid (show risesS s' = true from by rw [HSX.out]; exact apply_rises RI.out q)
      clear hb8 KX7 SX7 zX o0 o1 o2 o3 o4
      obtain ⟨o0, o1, o2, o3, o4⟩ := four KX8.out
      have zX : X < w8.heap.size := heap_lt KX8.out
      go_wp2_with fail
      refine (Rises_any Cp Cr _ ep _ er _ _ s'.pairs s'.reps _ _ _ _ rfl rfl SX8.out.sv.p SX8.out.sv.r (Nat.le_trans BD7.out.p (by decide)) (Nat.le_trans BD7.out.r (by decide))).mono ?_
      rintro e w9 ⟨rfl, hb9⟩
      rw [show (risesP s'.pairs && risesR s'.reps) = true from RI8.out]
      have HI9 := Lib.hid (show HoI w w9 X Cp ep Cr er Cm em s' from ⟨blk_later hb9 KX8.out, SX8.out.below hb9, RI8.out, HB8.out.trans (hb9.mono HB8.out.size)⟩)
      clear hb9
      go_wp2_with fail
      go_roundw
      case rel =>
        refine ⟨k + 1, Cp, ep, Cr, er, Cm, em, by omega, by go_num, ?_, ?_, ?_⟩
        · rw [HS1.out, G2.out]
        · rw [HS1.out, G1.out]
        · rw [HS1.out]; exact HI9
      case measure => simp only [intOf]; omega
    have HACT := Lib.hid (show act st q = true from by rw [act_fresh, HGQ.out, ← HLA.out, decide_eq_true hnm]; rfl)
    have HRN := Lib.hid (show r' = newR st q from by rw [HRX.out]; exact (apply_act HACT.out).2)
    by_cases hcd : r'.code = 0
    case neg =>
      have HG1 := Lib.hid (show (newR st q).code ≠ 0 from by rw [← HRN.out]; exact hcd)
      have G1 := Lib.hid (show hasP s'.pairs key = hasP st.pairs key from by rw [HSX.out]; exact (get_apply_other RI.out q (.inr (.inl HG1.out))).1.symm)
      have G2 := Lib.hid (show getV s'.pairs key = getV st.pairs key from by rw [HSX.out]; exact (get_apply_other RI.out q (.inr (.inl HG1.out))).2.symm)
      go_wp2_with fail
      rw [store4 KX6.out]
      have KX7 := Lib.hid (setRow_heap w6 X _ #[.slice Cp s'.pairs.length ep, .slice Cr s'.reps.length er, .int .i64 s'.epoch, .slice Cm s'.mbs.length em] 28 (0, 0) KX6.out)
      have SX7 := Lib.hid (SX6.out.go (AgV.setRow (V := fun k => k = X) w6 rfl #[.slice Cp s'.pairs.length ep, .slice Cr s'.reps.length er, .int .i64 s'.epoch, .slice Cm s'.mbs.length em]))
      have HB7 := Lib.hid (below_setRow HB6.out (Nat.le_of_lt hXw) #[.slice Cp s'.pairs.length ep, .slice Cr s'.reps.length er, .int .i64 s'.epoch, .slice Cm s'.mbs.length em])
      obtain ⟨w7, hw7⟩ : ∃ x, x = w6.setRow X #[.slice Cp s'.pairs.length ep, .slice Cr s'.reps.length er, .int .i64 s'.epoch, .slice Cm s'.mbs.length em] := ⟨_, rfl⟩
      rw [← hw7] at KX7 SX7 HB7 ⊢
      clear hw7 o0 o1 o2 o3 o4 x0 x1 x2 x3 x4 x5 l0 l1 l2 l3 l4 r0 r1 r2 r3 r4 y0 y1 y2 y3 y4 zY zQ zX zL zR SX6 KX6 KQ6 KL6 KY6 KR6
      obtain ⟨o0, o1, o2, o3, o4⟩ := four KX7.out
      have zX : X < w7.heap.size := heap_lt KX7.out
      have BD7 := Lib.hid (show BdS 1001 s' from by rw [HSX.out]; exact HBK.out.step)
      go_wp2_with fail
      refine (Get_any _ Cp _ s'.pairs ep _ _ _ key _ rfl SX7.out.sv.p (Nat.le_trans BD7.out.p (by decide))).mono ?_
      rintro e w8 ⟨rfl, hb8⟩
      rw [G1.out, G2.out]
      have HB8 := Lib.hid (HB7.out.trans (hb8.mono HB7.out.size))
      have KX8 := Lib.hid (blk_later hb8 KX7.out)
      have SX8 := Lib.hid (SX7.out.below hb8)
      have RI8 := Lib.hid (show risesS s' = true from by rw [HSX.out]; exact apply_rises RI.out q)
      clear hb8 KX7 SX7 zX o0 o1 o2 o3 o4
      obtain ⟨o0, o1, o2, o3, o4⟩ := four KX8.out
      have zX : X < w8.heap.size := heap_lt KX8.out
      go_wp2_with fail
      refine (Rises_any Cp Cr _ ep _ er _ _ s'.pairs s'.reps _ _ _ _ rfl rfl SX8.out.sv.p SX8.out.sv.r (Nat.le_trans BD7.out.p (by decide)) (Nat.le_trans BD7.out.r (by decide))).mono ?_
      rintro e w9 ⟨rfl, hb9⟩
      rw [show (risesP s'.pairs && risesR s'.reps) = true from RI8.out]
      have HI9 := Lib.hid (show HoI w w9 X Cp ep Cr er Cm em s' from ⟨blk_later hb9 KX8.out, SX8.out.below hb9, RI8.out, HB8.out.trans (hb9.mono HB8.out.size)⟩)
      clear hb9
      go_wp2_with fail
      go_roundw
      case rel =>
        refine ⟨k + 1, Cp, ep, Cr, er, Cm, em, by omega, by go_num, ?_, ?_, ?_⟩
        · rw [HS1.out, G2.out]
        · rw [HS1.out, G1.out]
        · rw [HS1.out]; exact HI9
      case measure => simp only [intOf]; omega
    have HCD := Lib.hid (show (newR st q).code = 0 from by rw [← HRN.out]; exact hcd)
    rw [hcd] at r2
    clear hcd
    cases hke : (q.key.toList == key.toList)
    case false =>
      have HG1 := Lib.hid (show q.key ≠ key from fun e => by rw [e] at hke; simp at hke)
      have G1 := Lib.hid (show hasP s'.pairs key = hasP st.pairs key from by rw [HSX.out]; exact (get_apply_other RI.out q (.inr (.inr (.inl HG1.out)))).1.symm)
      have G2 := Lib.hid (show getV s'.pairs key = getV st.pairs key from by rw [HSX.out]; exact (get_apply_other RI.out q (.inr (.inr (.inl HG1.out)))).2.symm)
      go_wp2_with fail
      rw [store4 KX6.out]
      have KX7 := Lib.hid (setRow_heap w6 X _ #[.slice Cp s'.pairs.length ep, .slice Cr s'.reps.length er, .int .i64 s'.epoch, .slice Cm s'.mbs.length em] 28 (0, 0) KX6.out)
      have SX7 := Lib.hid (SX6.out.go (AgV.setRow (V := fun k => k = X) w6 rfl #[.slice Cp s'.pairs.length ep, .slice Cr s'.reps.length er, .int .i64 s'.epoch, .slice Cm s'.mbs.length em]))
      have HB7 := Lib.hid (below_setRow HB6.out (Nat.le_of_lt hXw) #[.slice Cp s'.pairs.length ep, .slice Cr s'.reps.length er, .int .i64 s'.epoch, .slice Cm s'.mbs.length em])
      obtain ⟨w7, hw7⟩ : ∃ x, x = w6.setRow X #[.slice Cp s'.pairs.length ep, .slice Cr s'.reps.length er, .int .i64 s'.epoch, .slice Cm s'.mbs.length em] := ⟨_, rfl⟩
      rw [← hw7] at KX7 SX7 HB7 ⊢
      clear hw7 o0 o1 o2 o3 o4 x0 x1 x2 x3 x4 x5 l0 l1 l2 l3 l4 r0 r1 r2 r3 r4 y0 y1 y2 y3 y4 zY zQ zX zL zR SX6 KX6 KQ6 KL6 KY6 KR6
      obtain ⟨o0, o1, o2, o3, o4⟩ := four KX7.out
      have zX : X < w7.heap.size := heap_lt KX7.out
      have BD7 := Lib.hid (show BdS 1001 s' from by rw [HSX.out]; exact HBK.out.step)
      go_wp2_with fail
      refine (Get_any _ Cp _ s'.pairs ep _ _ _ key _ rfl SX7.out.sv.p (Nat.le_trans BD7.out.p (by decide))).mono ?_
      rintro e w8 ⟨rfl, hb8⟩
      rw [G1.out, G2.out]
      have HB8 := Lib.hid (HB7.out.trans (hb8.mono HB7.out.size))
      have KX8 := Lib.hid (blk_later hb8 KX7.out)
      have SX8 := Lib.hid (SX7.out.below hb8)
      have RI8 := Lib.hid (show risesS s' = true from by rw [HSX.out]; exact apply_rises RI.out q)
      clear hb8 KX7 SX7 zX o0 o1 o2 o3 o4
      obtain ⟨o0, o1, o2, o3, o4⟩ := four KX8.out
      have zX : X < w8.heap.size := heap_lt KX8.out
      go_wp2_with fail
      refine (Rises_any Cp Cr _ ep _ er _ _ s'.pairs s'.reps _ _ _ _ rfl rfl SX8.out.sv.p SX8.out.sv.r (Nat.le_trans BD7.out.p (by decide)) (Nat.le_trans BD7.out.r (by decide))).mono ?_
      rintro e w9 ⟨rfl, hb9⟩
      rw [show (risesP s'.pairs && risesR s'.reps) = true from RI8.out]
      have HI9 := Lib.hid (show HoI w w9 X Cp ep Cr er Cm em s' from ⟨blk_later hb9 KX8.out, SX8.out.below hb9, RI8.out, HB8.out.trans (hb9.mono HB8.out.size)⟩)
      clear hb9
      go_wp2_with fail
      go_roundw
      case rel =>
        refine ⟨k + 1, Cp, ep, Cr, er, Cm, em, by omega, by go_num, ?_, ?_, ?_⟩
        · rw [HS1.out, G2.out]
        · rw [HS1.out, G1.out]
        · rw [HS1.out]; exact HI9
      case measure => simp only [intOf]; omega
    have HKE := Lib.hid (show q.key = key from ba_ext (by simpa using hke))
    by_cases k2 : q.kind = 2
    case pos =>
      rw [k2] at x2
      have G1 := Lib.hid (show hasP s'.pairs key = true from by rw [HSX.out, ← HKE.out]; exact (get_apply_put RI.out q HACT.out HCD.out (.inl k2)).1)
      have G2 := Lib.hid (show getV s'.pairs key = q.val from by rw [HSX.out, ← HKE.out]; exact (get_apply_put RI.out q HACT.out HCD.out (.inl k2)).2)
      clear k2
      go_wp2_with fail
      rw [store4 KX6.out]
      have KX7 := Lib.hid (setRow_heap w6 X _ #[.slice Cp s'.pairs.length ep, .slice Cr s'.reps.length er, .int .i64 s'.epoch, .slice Cm s'.mbs.length em] 28 (0, 0) KX6.out)
      have SX7 := Lib.hid (SX6.out.go (AgV.setRow (V := fun k => k = X) w6 rfl #[.slice Cp s'.pairs.length ep, .slice Cr s'.reps.length er, .int .i64 s'.epoch, .slice Cm s'.mbs.length em]))
      have HB7 := Lib.hid (below_setRow HB6.out (Nat.le_of_lt hXw) #[.slice Cp s'.pairs.length ep, .slice Cr s'.reps.length er, .int .i64 s'.epoch, .slice Cm s'.mbs.length em])
      obtain ⟨w7, hw7⟩ : ∃ x, x = w6.setRow X #[.slice Cp s'.pairs.length ep, .slice Cr s'.reps.length er, .int .i64 s'.epoch, .slice Cm s'.mbs.length em] := ⟨_, rfl⟩
      rw [← hw7] at KX7 SX7 HB7 ⊢
      clear hw7 o0 o1 o2 o3 o4 x0 x1 x2 x3 x4 x5 l0 l1 l2 l3 l4 r0 r1 r2 r3 r4 y0 y1 y2 y3 y4 zY zQ zX zL zR SX6 KX6 KQ6 KL6 KY6 KR6
      obtain ⟨o0, o1, o2, o3, o4⟩ := four KX7.out
      have zX : X < w7.heap.size := heap_lt KX7.out
      have BD7 := Lib.hid (show BdS 1001 s' from by rw [HSX.out]; exact HBK.out.step)
      go_wp2_with fail
      refine (Get_any _ Cp _ s'.pairs ep _ _ _ key _ rfl SX7.out.sv.p (Nat.le_trans BD7.out.p (by decide))).mono ?_
      rintro e w8 ⟨rfl, hb8⟩
      rw [G1.out, G2.out]
      have HB8 := Lib.hid (HB7.out.trans (hb8.mono HB7.out.size))
      have KX8 := Lib.hid (blk_later hb8 KX7.out)
      have SX8 := Lib.hid (SX7.out.below hb8)
      have RI8 := Lib.hid (show risesS s' = true from by rw [HSX.out]; exact apply_rises RI.out q)
      clear hb8 KX7 SX7 zX o0 o1 o2 o3 o4
      obtain ⟨o0, o1, o2, o3, o4⟩ := four KX8.out
      have zX : X < w8.heap.size := heap_lt KX8.out
      go_wp2_with fail
      refine (Rises_any Cp Cr _ ep _ er _ _ s'.pairs s'.reps _ _ _ _ rfl rfl SX8.out.sv.p SX8.out.sv.r (Nat.le_trans BD7.out.p (by decide)) (Nat.le_trans BD7.out.r (by decide))).mono ?_
      rintro e w9 ⟨rfl, hb9⟩
      rw [show (risesP s'.pairs && risesR s'.reps) = true from RI8.out]
      have HI9 := Lib.hid (show HoI w w9 X Cp ep Cr er Cm em s' from ⟨blk_later hb9 KX8.out, SX8.out.below hb9, RI8.out, HB8.out.trans (hb9.mono HB8.out.size)⟩)
      clear hb9
      go_wp2_with fail
      go_roundw
      case rel =>
        refine ⟨k + 1, Cp, ep, Cr, er, Cm, em, by omega, by go_num, ?_, ?_, ?_⟩
        · rw [HS1.out, G2.out]
        · rw [HS1.out, G1.out]
        · rw [HS1.out]; exact HI9
      case measure => simp only [intOf]; omega
    by_cases k4 : q.kind = 4
    case pos =>
      rw [k4] at x2
      have G1 := Lib.hid (show hasP s'.pairs key = true from by rw [HSX.out, ← HKE.out]; exact (get_apply_put RI.out q HACT.out HCD.out (.inr k4)).1)
      have G2 := Lib.hid (show getV s'.pairs key = q.val from by rw [HSX.out, ← HKE.out]; exact (get_apply_put RI.out q HACT.out HCD.out (.inr k4)).2)
      clear k4 k2
      go_wp2_with fail
      rw [store4 KX6.out]
      have KX7 := Lib.hid (setRow_heap w6 X _ #[.slice Cp s'.pairs.length ep, .slice Cr s'.reps.length er, .int .i64 s'.epoch, .slice Cm s'.mbs.length em] 28 (0, 0) KX6.out)
      have SX7 := Lib.hid (SX6.out.go (AgV.setRow (V := fun k => k = X) w6 rfl #[.slice Cp s'.pairs.length ep, .slice Cr s'.reps.length er, .int .i64 s'.epoch, .slice Cm s'.mbs.length em]))
      have HB7 := Lib.hid (below_setRow HB6.out (Nat.le_of_lt hXw) #[.slice Cp s'.pairs.length ep, .slice Cr s'.reps.length er, .int .i64 s'.epoch, .slice Cm s'.mbs.length em])
      obtain ⟨w7, hw7⟩ : ∃ x, x = w6.setRow X #[.slice Cp s'.pairs.length ep, .slice Cr s'.reps.length er, .int .i64 s'.epoch, .slice Cm s'.mbs.length em] := ⟨_, rfl⟩
      rw [← hw7] at KX7 SX7 HB7 ⊢
      clear hw7 o0 o1 o2 o3 o4 x0 x1 x2 x3 x4 x5 l0 l1 l2 l3 l4 r0 r1 r2 r3 r4 y0 y1 y2 y3 y4 zY zQ zX zL zR SX6 KX6 KQ6 KL6 KY6 KR6
      obtain ⟨o0, o1, o2, o3, o4⟩ := four KX7.out
      have zX : X < w7.heap.size := heap_lt KX7.out
      have BD7 := Lib.hid (show BdS 1001 s' from by rw [HSX.out]; exact HBK.out.step)
      go_wp2_with fail
      refine (Get_any _ Cp _ s'.pairs ep _ _ _ key _ rfl SX7.out.sv.p (Nat.le_trans BD7.out.p (by decide))).mono ?_
      rintro e w8 ⟨rfl, hb8⟩
      rw [G1.out, G2.out]
      have HB8 := Lib.hid (HB7.out.trans (hb8.mono HB7.out.size))
      have KX8 := Lib.hid (blk_later hb8 KX7.out)
      have SX8 := Lib.hid (SX7.out.below hb8)
      have RI8 := Lib.hid (show risesS s' = true from by rw [HSX.out]; exact apply_rises RI.out q)
      clear hb8 KX7 SX7 zX o0 o1 o2 o3 o4
      obtain ⟨o0, o1, o2, o3, o4⟩ := four KX8.out
      have zX : X < w8.heap.size := heap_lt KX8.out
      go_wp2_with fail
      refine (Rises_any Cp Cr _ ep _ er _ _ s'.pairs s'.reps _ _ _ _ rfl rfl SX8.out.sv.p SX8.out.sv.r (Nat.le_trans BD7.out.p (by decide)) (Nat.le_trans BD7.out.r (by decide))).mono ?_
      rintro e w9 ⟨rfl, hb9⟩
      rw [show (risesP s'.pairs && risesR s'.reps) = true from RI8.out]
      have HI9 := Lib.hid (show HoI w w9 X Cp ep Cr er Cm em s' from ⟨blk_later hb9 KX8.out, SX8.out.below hb9, RI8.out, HB8.out.trans (hb9.mono HB8.out.size)⟩)
      clear hb9
      go_wp2_with fail
      go_roundw
      case rel =>
        refine ⟨k + 1, Cp, ep, Cr, er, Cm, em, by omega, by go_num, ?_, ?_, ?_⟩
        · rw [HS1.out, G2.out]
        · rw [HS1.out, G1.out]
        · rw [HS1.out]; exact HI9
      case measure => simp only [intOf]; omega
    by_cases k3 : q.kind = 3
    case pos =>
      rw [k3] at x2
      have G1 := Lib.hid (show hasP s'.pairs key = false from by rw [HSX.out, ← HKE.out]; exact (get_apply_del RI.out q HACT.out HCD.out k3).1)
      have G2 := Lib.hid (show getV s'.pairs key = ⟨#[]⟩ from by rw [HSX.out, ← HKE.out]; exact (get_apply_del RI.out q HACT.out HCD.out k3).2)
      clear k4 k2 k3
      go_wp2_with fail
      rw [store4 KX6.out]
      have KX7 := Lib.hid (setRow_heap w6 X _ #[.slice Cp s'.pairs.length ep, .slice Cr s'.reps.length er, .int .i64 s'.epoch, .slice Cm s'.mbs.length em] 28 (0, 0) KX6.out)
      have SX7 := Lib.hid (SX6.out.go (AgV.setRow (V := fun k => k = X) w6 rfl #[.slice Cp s'.pairs.length ep, .slice Cr s'.reps.length er, .int .i64 s'.epoch, .slice Cm s'.mbs.length em]))
      have HB7 := Lib.hid (below_setRow HB6.out (Nat.le_of_lt hXw) #[.slice Cp s'.pairs.length ep, .slice Cr s'.reps.length er, .int .i64 s'.epoch, .slice Cm s'.mbs.length em])
      obtain ⟨w7, hw7⟩ : ∃ x, x = w6.setRow X #[.slice Cp s'.pairs.length ep, .slice Cr s'.reps.length er, .int .i64 s'.epoch, .slice Cm s'.mbs.length em] := ⟨_, rfl⟩
      rw [← hw7] at KX7 SX7 HB7 ⊢
      clear hw7 o0 o1 o2 o3 o4 x0 x1 x2 x3 x4 x5 l0 l1 l2 l3 l4 r0 r1 r2 r3 r4 y0 y1 y2 y3 y4 zY zQ zX zL zR SX6 KX6 KQ6 KL6 KY6 KR6
      obtain ⟨o0, o1, o2, o3, o4⟩ := four KX7.out
      have zX : X < w7.heap.size := heap_lt KX7.out
      have BD7 := Lib.hid (show BdS 1001 s' from by rw [HSX.out]; exact HBK.out.step)
      go_wp2_with fail
      refine (Get_any _ Cp _ s'.pairs ep _ _ _ key _ rfl SX7.out.sv.p (Nat.le_trans BD7.out.p (by decide))).mono ?_
      rintro e w8 ⟨rfl, hb8⟩
      rw [G1.out, G2.out]
      have HB8 := Lib.hid (HB7.out.trans (hb8.mono HB7.out.size))
      have KX8 := Lib.hid (blk_later hb8 KX7.out)
      have SX8 := Lib.hid (SX7.out.below hb8)
      have RI8 := Lib.hid (show risesS s' = true from by rw [HSX.out]; exact apply_rises RI.out q)
      clear hb8 KX7 SX7 zX o0 o1 o2 o3 o4
      obtain ⟨o0, o1, o2, o3, o4⟩ := four KX8.out
      have zX : X < w8.heap.size := heap_lt KX8.out
      go_wp2_with fail
      refine (Rises_any Cp Cr _ ep _ er _ _ s'.pairs s'.reps _ _ _ _ rfl rfl SX8.out.sv.p SX8.out.sv.r (Nat.le_trans BD7.out.p (by decide)) (Nat.le_trans BD7.out.r (by decide))).mono ?_
      rintro e w9 ⟨rfl, hb9⟩
      rw [show (risesP s'.pairs && risesR s'.reps) = true from RI8.out]
      have HI9 := Lib.hid (show HoI w w9 X Cp ep Cr er Cm em s' from ⟨blk_later hb9 KX8.out, SX8.out.below hb9, RI8.out, HB8.out.trans (hb9.mono HB8.out.size)⟩)
      clear hb9
      go_wp2_with fail
      go_roundw
      case rel =>
        refine ⟨k + 1, Cp, ep, Cr, er, Cm, em, by omega, by go_num, ?_, ?_, ?_⟩
        · rw [HS1.out, G2.out]
        · rw [HS1.out, G1.out]
        · rw [HS1.out]; exact HI9
      case measure => simp only [intOf]; omega
    have HG1 := Lib.hid (show q.kind ≠ 2 ∧ q.kind ≠ 3 ∧ q.kind ≠ 4 from ⟨k2, k3, k4⟩)
    have G1 := Lib.hid (show hasP s'.pairs key = hasP st.pairs key from by rw [HSX.out]; exact (get_apply_other RI.out q (.inr (.inr (.inr HG1.out)))).1.symm)
    have G2 := Lib.hid (show getV s'.pairs key = getV st.pairs key from by rw [HSX.out]; exact (get_apply_other RI.out q (.inr (.inr (.inr HG1.out)))).2.symm)
    go_wp2_with fail
    rw [store4 KX6.out]
    have KX7 := Lib.hid (setRow_heap w6 X _ #[.slice Cp s'.pairs.length ep, .slice Cr s'.reps.length er, .int .i64 s'.epoch, .slice Cm s'.mbs.length em] 28 (0, 0) KX6.out)
    have SX7 := Lib.hid (SX6.out.go (AgV.setRow (V := fun k => k = X) w6 rfl #[.slice Cp s'.pairs.length ep, .slice Cr s'.reps.length er, .int .i64 s'.epoch, .slice Cm s'.mbs.length em]))
    have HB7 := Lib.hid (below_setRow HB6.out (Nat.le_of_lt hXw) #[.slice Cp s'.pairs.length ep, .slice Cr s'.reps.length er, .int .i64 s'.epoch, .slice Cm s'.mbs.length em])
    obtain ⟨w7, hw7⟩ : ∃ x, x = w6.setRow X #[.slice Cp s'.pairs.length ep, .slice Cr s'.reps.length er, .int .i64 s'.epoch, .slice Cm s'.mbs.length em] := ⟨_, rfl⟩
    rw [← hw7] at KX7 SX7 HB7 ⊢
    clear hw7 o0 o1 o2 o3 o4 x0 x1 x2 x3 x4 x5 l0 l1 l2 l3 l4 r0 r1 r2 r3 r4 y0 y1 y2 y3 y4 zY zQ zX zL zR SX6 KX6 KQ6 KL6 KY6 KR6
    obtain ⟨o0, o1, o2, o3, o4⟩ := four KX7.out
    have zX : X < w7.heap.size := heap_lt KX7.out
    have BD7 := Lib.hid (show BdS 1001 s' from by rw [HSX.out]; exact HBK.out.step)
    go_wp2_with fail
    refine (Get_any _ Cp _ s'.pairs ep _ _ _ key _ rfl SX7.out.sv.p (Nat.le_trans BD7.out.p (by decide))).mono ?_
    rintro e w8 ⟨rfl, hb8⟩
    rw [G1.out, G2.out]
    have HB8 := Lib.hid (HB7.out.trans (hb8.mono HB7.out.size))
    have KX8 := Lib.hid (blk_later hb8 KX7.out)
    have SX8 := Lib.hid (SX7.out.below hb8)
    have RI8 := Lib.hid (show risesS s' = true from by rw [HSX.out]; exact apply_rises RI.out q)
    clear hb8 KX7 SX7 zX o0 o1 o2 o3 o4
    obtain ⟨o0, o1, o2, o3, o4⟩ := four KX8.out
    have zX : X < w8.heap.size := heap_lt KX8.out
    go_wp2_with fail
    refine (Rises_any Cp Cr _ ep _ er _ _ s'.pairs s'.reps _ _ _ _ rfl rfl SX8.out.sv.p SX8.out.sv.r (Nat.le_trans BD7.out.p (by decide)) (Nat.le_trans BD7.out.r (by decide))).mono ?_
    rintro e w9 ⟨rfl, hb9⟩
    rw [show (risesP s'.pairs && risesR s'.reps) = true from RI8.out]
    have HI9 := Lib.hid (show HoI w w9 X Cp ep Cr er Cm em s' from ⟨blk_later hb9 KX8.out, SX8.out.below hb9, RI8.out, HB8.out.trans (hb9.mono HB8.out.size)⟩)
    clear hb9
    go_wp2_with fail
    go_roundw
    case rel =>
      refine ⟨k + 1, Cp, ep, Cr, er, Cm, em, by omega, by go_num, ?_, ?_, ?_⟩
      · rw [HS1.out, G2.out]
      · rw [HS1.out, G1.out]
      · rw [HS1.out]; exact HI9
    case measure => simp only [intOf]; omega
end Go.Proofs.YtchnnplcpidkiaaDoor
