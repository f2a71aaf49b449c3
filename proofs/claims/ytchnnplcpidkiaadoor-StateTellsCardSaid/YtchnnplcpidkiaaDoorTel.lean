/-
  The walk of StateTells: whatever the registry, the key and the client: it returns true.
-/
import Derived.Test.YtchnnplcpidkiaaDoorAlv
import Derived.Test.YtchnnplcpidkiaaDoorSrt
namespace Go.Proofs.YtchnnplcpidkiaaDoor
open Go.RowKit

theorem RZ.nil : RZ [] := fun _ hk => absurd hk (Nat.not_lt_zero _)

set_option maxHeartbeats 2000000 in
set_option maxRecDepth 100000 in
theorem tells_any (Ap Ar Am : Option Addr) (np cp nr cr nm cm : Nat) (ep : Int) (ps : List Pr) (rs : List Rp) (ms : List Mb) (key : ByteArray) (client : Int) (w : World)
    (lp : ps.length = np) (lr : rs.length = nr) (lm : ms.length = nm) (h : SV w Ap Ar Am ⟨ps, rs, ep, ms⟩) (hz : SZ ⟨ps, rs, ep, ms⟩) (ht : Tab w.heap.size w) :
    Calls Tryd.prog 3 #[.agg #[.slice Ap np cp, .slice Ar nr cr, .int .i64 ep, .slice Am nm cm], .string key, .int .i64 client] w (AlivePost w) := by
  have HA := Lib.hid h
  have HZ := Lib.hid hz
  have LP := Lib.hid lp
  have LR := Lib.hid lr
  have LM := Lib.hid lm
  have HT := Lib.hid ht
  clear h hz lp lr lm ht
  have HB0 := Lib.hid (show Below w.heap.size w (w.alloc (.cells #[.slice Ap np cp, .slice Ar nr cr, .int .i64 ep, .slice Am nm cm] 28)) from (Below.refl _ _).alloc (Nat.le_refl _) _)
  have kA := heap_alloc_last w (.cells #[.slice Ap np cp, .slice Ar nr cr, .int .i64 ep, .slice Am nm cm] 28)
  go_enter Tryd.func3, Tryd.ntmps3
  go_wp2_with fail
  refine (alive_any _ ((HT.out.below HB0.out).mono (by rw [World.size_alloc]; omega))).mono ?_
  rintro e w1 ⟨rfl, hb1⟩
  have HB1 := Lib.hid (HB0.out.trans (hb1.mono (by rw [World.size_alloc]; omega)))
  have K1 := Lib.hid (blk_later hb1 kA)
  clear hb1 kA HB0
  obtain ⟨a0, a1, a2, a3, a4⟩ := four K1.out
  have z0 : w.heap.size < w1.heap.size := heap_lt K1.out
  go_wp2_with fail
  refine (great_any Ap Ar Am np cp nr cr nm cm ep ps rs ms (fun _ => True) none 0 0 [] _ LP.out LR.out LM.out (HA.out.below HB1.out) HZ.out rfl (Row.nil _ _ _ _) RZ.nil).mono ?_
  rintro e w2 ⟨b, rfl, hb, hb2⟩
  have HB2 := Lib.hid (HB1.out.trans (hb2.mono HB1.out.size))
  have K2 := Lib.hid (blk_later hb2 K1.out)
  have HGL := Lib.hid hb
  clear hb hb2 a0 a1 a2 a3 a4 z0
  cases b
  case true =>
    go_wp2_with fail
    go_ret
    exact ⟨rfl, HB2.out⟩
  have HG := Lib.hid (HGL.out rfl)
  clear HGL
  by_cases hkz : key.size ≤ 4096
  case neg =>
    have hkz' : 4096 < (key.size : Int) := by omega
    go_wp2_with fail
    go_ret
    exact ⟨rfl, HB2.out⟩
  have hkz' : ¬ 4096 < (key.size : Int) := by omega
  have gp : ps.length ≤ 1000000 := Nat.le_trans HG.out.gb.p (by decide)
  have gr : rs.length ≤ 1000000 := Nat.le_trans HG.out.gb.r (by decide)
  have gm : ms.length ≤ 1000000 := Nat.le_trans HG.out.gb.m (by decide)
  have GV := Lib.hid (show ∀ k, (repOf rs k).vals.length ≤ 300 from fun k => by
    by_cases hk : k < rs.length
    · exact HG.out.gb.v k hk
    · rw [repOf_out hk]; simp)
  have hrise := HG.out.rises
  rw [risesS, Bool.and_eq_true] at hrise
  have RP := Lib.hid (show risesP ps = true from hrise.1)
  have RR := Lib.hid (show risesR rs = true from hrise.2)
  clear hrise
  obtain ⟨a0, a1, a2, a3, a4⟩ := four K2.out
  have z0 : w.heap.size < w2.heap.size := heap_lt K2.out
  go_wp2_with fail
  refine (Get_any _ Ap np ps cp _ _ _ key _ LP.out (HA.out.p.below HB2.out) gp).mono ?_
  rintro e w3 ⟨rfl, hb3⟩
  have HB3 := Lib.hid (HB2.out.trans (hb3.mono HB2.out.size))
  have K3 := Lib.hid (blk_later hb3 K2.out)
  clear hb3 a0 a1 a2 a3 a4 z0
  obtain ⟨a0, a1, a2, a3, a4⟩ := four K3.out
  have z0 : w.heap.size < w3.heap.size := heap_lt K3.out
  go_wp2_with fail
  refine (Last_any _ _ Ar nr rs cr _ _ _ client _ LR.out (HA.out.r.below HB3.out) gr (fun k => Nat.le_trans (GV.out k) (by decide))).mono ?_
  rintro e w4 ⟨v, rfl, ⟨Av, cv, rfl, hcv, hov⟩, hb4⟩
  have HB4 := Lib.hid (HB3.out.trans (hb4.mono HB3.out.size))
  have K4 := Lib.hid (blk_later hb4 K3.out)
  have HV4 := Lib.hid (hov.rowOf)
  clear hb4 hov hcv a0 a1 a2 a3 a4 z0
  obtain ⟨a0, a1, a2, a3, a4⟩ := four K4.out
  have z0 : w.heap.size < w4.heap.size := heap_lt K4.out
  obtain ⟨la, hla⟩ : ∃ la, la = lastR rs client := ⟨_, rfl⟩
  rw [← hla] at HV4 ⊢
  have HLA := Lib.hid hla
  clear hla
  go_wp2_with fail
  have K5 := Lib.hid (at_up K4.out (.cells #[.int .i64 la.client, .int .i64 la.num, .int .i64 la.code, .slice Av la.vals.length cv] 36))
  have KL5 := Lib.hid (heap_alloc_last w4 (.cells #[.int .i64 la.client, .int .i64 la.num, .int .i64 la.code, .slice Av la.vals.length cv] 36))
  have HB5 := Lib.hid (HB4.out.alloc HB4.out.size (.cells #[.int .i64 la.client, .int .i64 la.num, .int .i64 la.code, .slice Av la.vals.length cv] 36))
  have HV5 := Lib.hid (HV4.out.below (w' := w4.alloc (.cells #[.int .i64 la.client, .int .i64 la.num, .int .i64 la.code, .slice Av la.vals.length cv] 36)) ((Below.refl _ _).alloc (Nat.le_refl _) _))
  obtain ⟨L, hL⟩ : ∃ L, L = w4.heap.size := ⟨_, rfl⟩
  obtain ⟨w5, hw5⟩ : ∃ x, x = w4.alloc (.cells #[.int .i64 la.client, .int .i64 la.num, .int .i64 la.code, .slice Av la.vals.length cv] 36) := ⟨_, rfl⟩
  rw [← hw5] at K5 KL5 HB5 HV5
  rw [← hL] at KL5 z0
  rw [← hL, ← hw5]
  have zL : w.heap.size ≠ L := by omega
  clear hw5 hL a0 a1 a2 a3 a4 z0 HV4 K4 HB4
  obtain ⟨a0, a1, a2, a3, a4⟩ := four K5.out
  have z0 : w.heap.size < w5.heap.size := heap_lt K5.out
  have wd0 := Wd.cell a0 z0
  have wd1 := Wd.cell a1 z0
  have wd2 := Wd.cell a2 z0
  have wd3 := Wd.cell a3 z0
  have hc1 : ∀ i : Wd w5, Calls Tryd.prog 12 #[.agg #[.slice Ap np cp, .slice Ar nr cr, .int .i64 ep, .slice Am nm cm], .string key] i.wd fun e w' => e = .returned (.int .i64 (placeI ps key)) ∧ Below i.wd.heap.size i.wd w' := fun i =>
    Place_any _ Ap np ps cp _ _ _ key i.wd LP.out (HA.out.p.below (HB5.out.trans (i.be.mono HB5.out.size))) gp
  have hc2 : ∀ i : Wd w5, Calls Tryd.prog 13 #[.agg #[.slice Ap np cp, .slice Ar nr cr, .int .i64 ep, .slice Am nm cm], .int .i64 client] i.wd fun e w' => e = .returned (.int .i64 (lastI rs client)) ∧ Below i.wd.heap.size i.wd w' := fun i =>
    LastI_any _ _ Ar nr rs cr _ _ _ client i.wd LR.out (HA.out.r.below (HB5.out.trans (i.be.mono HB5.out.size))) gr
  refine region_wd _ (by kernel_rfl) (by kernel_rfl) ?_
  repeat (go_big_quiet_step (first | exact Wd.call _ (hc1 _) | exact Wd.call _ (hc2 _)))
  refine wpQuiet_nil ?_
  rintro _ ⟨i, rfl⟩
  have HB6 := Lib.hid (HB5.out.trans (i.be.mono HB5.out.size))
  have K6 := Lib.hid (blk_later i.be K5.out)
  have KL6 := Lib.hid (blk_later i.be KL5.out)
  have HV6 := Lib.hid (HV5.out.below i.be)
  obtain ⟨w6, hw6⟩ : ∃ x, x = i.wd := ⟨_, rfl⟩
  rw [← hw6] at HB6 K6 KL6 HV6 ⊢
  clear hw6 i wd0 wd1 wd2 wd3 hc1 hc2 a0 a1 a2 a3 a4 z0 K5 KL5 HB5 HV5
  cases hp : hasP ps key
  · cases hr : hasR rs client
    · have e1 := place_not RP.out hp
      have e2 : getV ps key = ⟨#[]⟩ := by rw [getV, if_neg (by rw [hp]; decide)]; rfl
      rw [e1, e2]
      clear e1 e2
      have f1 := last_not RR.out hr
      have HLR := Lib.hid (show la = ⟨0, 0, 0, []⟩ from by rw [HLA.out, lastR, if_neg (by rw [hr]; decide)])
      rw [f1]
      clear f1
      obtain ⟨a0, a1, a2, a3, a4⟩ := four K6.out
      obtain ⟨l0, l1, l2, l3, l4⟩ := four KL6.out
      have z0 : w.heap.size < w6.heap.size := heap_lt K6.out
      have zz : L < w6.heap.size := heap_lt KL6.out
      go_wp2_with fail
      refine (new_any _ Am nm cm ep ms _ LM.out (HA.out.m.below HB6.out) gm).mono ?_
      rintro e w7 ⟨A7, c7, rfl, hc7, ho7, hb7⟩
      have HB7 := Lib.hid (HB6.out.trans (hb7.mono HB6.out.size))
      have K7 := Lib.hid (blk_later hb7 K6.out)
      have KL7 := Lib.hid (blk_later hb7 KL6.out)
      have HV7 := Lib.hid (HV6.out.below hb7)
      have HO7 := Lib.hid ho7.rowOf
      clear hb7 ho7 hc7 a0 a1 a2 a3 a4 l0 l1 l2 l3 l4 z0 zz
      rw [LM.out]
      obtain ⟨a0, a1, a2, a3, a4⟩ := four K7.out
      obtain ⟨l0, l1, l2, l3, l4⟩ := four KL7.out
      have z0 : w.heap.size < w7.heap.size := heap_lt K7.out
      have zz : L < w7.heap.size := heap_lt KL7.out
      go_wp2_with fail
      have hX := Lib.hid (show Below w7.heap.size w7 (w7.alloc (.cells #[.slice none 0 0, .slice none 0 0, .int .i64 ep, .slice A7 nm c7] 28)) from (Below.refl _ _).alloc (Nat.le_refl _) _)
      refine (SameC_any _ _ A7 Am nm c7 nm cm ep ep ms ms _ LM.out LM.out (HO7.out.below hX.out) ((HA.out.m.below HB7.out).below hX.out) (by rw [← LM.out]; exact gm)).mono ?_
      rintro e w8 ⟨rfl, hb8⟩
      rw [sameC_refl]
      have hX8 := Lib.hid (hX.out.trans (hb8.mono hX.out.size))
      have HB8 := Lib.hid (HB7.out.trans (hX8.out.mono HB7.out.size))
      have K8 := Lib.hid (blk_later hX8.out K7.out)
      have KL8 := Lib.hid (blk_later hX8.out KL7.out)
      have HV8 := Lib.hid (HV7.out.below hX8.out)
      clear hb8 hX hX8 a0 a1 a2 a3 a4 l0 l1 l2 l3 l4 z0 zz
      obtain ⟨a0, a1, a2, a3, a4⟩ := four K8.out
      obtain ⟨l0, l1, l2, l3, l4⟩ := four KL8.out
      have z0 : w.heap.size < w8.heap.size := heap_lt K8.out
      have zz : L < w8.heap.size := heap_lt KL8.out
      go_wp2_with fail
      have wd1 := Wd.cell a1 z0
      have wl0 := Wd.cell l0 zz
      have wl1 := Wd.cell l1 zz
      have wl2 := Wd.cell l2 zz
      have wl3 := Wd.cell l3 zz
      have hcall : ∀ i : Wd w8, Calls Tryd.prog 16 #[.agg #[.int .i64 la.client, .int .i64 la.num, .int .i64 la.code, .slice Av la.vals.length cv], .agg #[.int .i64 0, .int .i64 0, .int .i64 0, .slice none 0 0]] i.wd
          fun e w' => e = .returned (.bool true) ∧ Below i.wd.heap.size i.wd w' := fun i => by
        have := SameR_any _ (fun _ => True) Av none _ cv 0 0 la ⟨0, 0, 0, []⟩ i.wd rfl rfl (HV8.out.below i.be) (Row.nil _ _ _ _) (by rw [HLR.out]; decide)
        rw [HLR.out, sameR_refl] at this
        rw [HLR.out]
        exact this
      refine region_wd _ (by kernel_rfl) (by kernel_rfl) ?_
      repeat (go_big_quiet_step (exact Wd.call _ (hcall _)))
      refine wpQuiet_nil ?_
      rintro _ ⟨i, rfl⟩
      go_wp2_with fail
      go_ret
      exact ⟨rfl, HB8.out.trans (i.be.mono HB8.out.size)⟩
    · have e1 := place_not RP.out hp
      have e2 : getV ps key = ⟨#[]⟩ := by rw [getV, if_neg (by rw [hp]; decide)]; rfl
      rw [e1, e2]
      clear e1 e2
      have f1 := last_has RR.out hr
      have hlr := findR_lt hr
      have HLR := Lib.hid (show la = repOf rs (findR rs client) from by rw [HLA.out, lastR, if_pos hr])
      have hlrn : findR rs client < nr := by rw [← LR.out]; exact hlr
      rw [f1]
      obtain ⟨rf, hrf⟩ : ∃ rf, rf = findR rs client := ⟨_, rfl⟩
      rw [← hrf] at hlr hlrn HLR ⊢
      clear hrf f1
      obtain ⟨a0, a1, a2, a3, a4⟩ := four K6.out
      obtain ⟨l0, l1, l2, l3, l4⟩ := four KL6.out
      have z0 : w.heap.size < w6.heap.size := heap_lt K6.out
      have zz : L < w6.heap.size := heap_lt KL6.out
      go_wp2_with fail
      refine (new_any _ Am nm cm ep ms _ LM.out (HA.out.m.below HB6.out) gm).mono ?_
      rintro e w7 ⟨A7, c7, rfl, hc7, ho7, hb7⟩
      have HB7 := Lib.hid (HB6.out.trans (hb7.mono HB6.out.size))
      have K7 := Lib.hid (blk_later hb7 K6.out)
      have KL7 := Lib.hid (blk_later hb7 KL6.out)
      have HV7 := Lib.hid (HV6.out.below hb7)
      have HO7 := Lib.hid ho7.rowOf
      clear hb7 ho7 hc7 a0 a1 a2 a3 a4 l0 l1 l2 l3 l4 z0 zz
      rw [LM.out]
      obtain ⟨a0, a1, a2, a3, a4⟩ := four K7.out
      obtain ⟨l0, l1, l2, l3, l4⟩ := four KL7.out
      have z0 : w.heap.size < w7.heap.size := heap_lt K7.out
      have zz : L < w7.heap.size := heap_lt KL7.out
      go_wp2_with fail
      have hX := Lib.hid (show Below w7.heap.size w7 (w7.alloc (.cells #[.slice none 0 0, .slice none 0 0, .int .i64 ep, .slice A7 nm c7] 28)) from (Below.refl _ _).alloc (Nat.le_refl _) _)
      refine (SameC_any _ _ A7 Am nm c7 nm cm ep ep ms ms _ LM.out LM.out (HO7.out.below hX.out) ((HA.out.m.below HB7.out).below hX.out) (by rw [← LM.out]; exact gm)).mono ?_
      rintro e w8 ⟨rfl, hb8⟩
      rw [sameC_refl]
      have hX8 := Lib.hid (hX.out.trans (hb8.mono hX.out.size))
      have HB8 := Lib.hid (HB7.out.trans (hX8.out.mono HB7.out.size))
      have K8 := Lib.hid (blk_later hX8.out K7.out)
      have KL8 := Lib.hid (blk_later hX8.out KL7.out)
      have HV8 := Lib.hid (HV7.out.below hX8.out)
      clear hb8 hX hX8 a0 a1 a2 a3 a4 l0 l1 l2 l3 l4 z0 zz
      obtain ⟨a0, a1, a2, a3, a4⟩ := four K8.out
      obtain ⟨l0, l1, l2, l3, l4⟩ := four KL8.out
      have z0 : w.heap.size < w8.heap.size := heap_lt K8.out
      have zz : L < w8.heap.size := heap_lt KL8.out
      go_wp2_with fail
      have wd1 := Wd.cell a1 z0
      have wl0 := Wd.cell l0 zz
      have wl1 := Wd.cell l1 zz
      have wl2 := Wd.cell l2 zz
      have wl3 := Wd.cell l3 zz
      obtain ⟨gR, offR, Bv, bv, hAR, hgR, k0, k1, k2, k3, k4, k5⟩ := (HA.out.r.below HB8.out).at hlr
      subst hAR
      have wk0 := Wd.cell k0 hgR
      have wk1 := Wd.cell k1 hgR
      have wk2 := Wd.cell k2 hgR
      have wk3 := Wd.cell k3 hgR
      have hcall : ∀ i : Wd w8, Calls Tryd.prog 16 #[.agg #[.int .i64 la.client, .int .i64 la.num, .int .i64 la.code, .slice Av la.vals.length cv], .agg #[.int .i64 (repOf rs rf).client, .int .i64 (repOf rs rf).num, .int .i64 (repOf rs rf).code, .slice Bv (repOf rs rf).vals.length bv]] i.wd
          fun e w' => e = .returned (.bool true) ∧ Below i.wd.heap.size i.wd w' := fun i => by
        have := SameR_any _ _ Av Bv _ cv _ bv la (repOf rs rf) i.wd rfl rfl (HV8.out.below i.be) (k5.below i.be) (by rw [HLR.out]; exact Nat.le_trans (GV.out rf) (by decide))
        rw [HLR.out, sameR_refl] at this
        rw [HLR.out]
        exact this
      clear k0 k1 k2 k3 k4
      refine region_wd _ (by kernel_rfl) (by kernel_rfl) ?_
      repeat (go_big_quiet_step (exact Wd.call _ (hcall _)))
      refine wpQuiet_nil ?_
      rintro _ ⟨i, rfl⟩
      go_wp2_with fail
      go_ret
      exact ⟨rfl, HB8.out.trans (i.be.mono HB8.out.size)⟩
  · cases hr : hasR rs client
    · have e1 := place_has RP.out hp
      have hlt := findP_lt hp
      have e2 : getV ps key = valOf ps (findP ps key) := by rw [getV, if_pos hp]
      rw [e1, e2]
      have hltn : findP ps key < np := by rw [← LP.out]; exact hlt
      obtain ⟨pf, hpf⟩ : ∃ pf, pf = findP ps key := ⟨_, rfl⟩
      rw [← hpf] at hlt hltn ⊢
      obtain ⟨gP, offP, hAP, hgP, r0, r1⟩ := (HA.out.p.below HB6.out).pair hlt
      subst hAP
      clear hpf e1 e2 r0
      have f1 := last_not RR.out hr
      have HLR := Lib.hid (show la = ⟨0, 0, 0, []⟩ from by rw [HLA.out, lastR, if_neg (by rw [hr]; decide)])
      rw [f1]
      clear f1
      obtain ⟨a0, a1, a2, a3, a4⟩ := four K6.out
      obtain ⟨l0, l1, l2, l3, l4⟩ := four KL6.out
      have z0 : w.heap.size < w6.heap.size := heap_lt K6.out
      have zz : L < w6.heap.size := heap_lt KL6.out
      go_wp2_with fail
      refine (new_any _ Am nm cm ep ms _ LM.out (HA.out.m.below HB6.out) gm).mono ?_
      rintro e w7 ⟨A7, c7, rfl, hc7, ho7, hb7⟩
      have HB7 := Lib.hid (HB6.out.trans (hb7.mono HB6.out.size))
      have K7 := Lib.hid (blk_later hb7 K6.out)
      have KL7 := Lib.hid (blk_later hb7 KL6.out)
      have HV7 := Lib.hid (HV6.out.below hb7)
      have HO7 := Lib.hid ho7.rowOf
      clear hb7 ho7 hc7 a0 a1 a2 a3 a4 l0 l1 l2 l3 l4 z0 zz
      rw [LM.out]
      obtain ⟨a0, a1, a2, a3, a4⟩ := four K7.out
      obtain ⟨l0, l1, l2, l3, l4⟩ := four KL7.out
      have z0 : w.heap.size < w7.heap.size := heap_lt K7.out
      have zz : L < w7.heap.size := heap_lt KL7.out
      go_wp2_with fail
      have hX := Lib.hid (show Below w7.heap.size w7 (w7.alloc (.cells #[.slice none 0 0, .slice none 0 0, .int .i64 ep, .slice A7 nm c7] 28)) from (Below.refl _ _).alloc (Nat.le_refl _) _)
      refine (SameC_any _ _ A7 Am nm c7 nm cm ep ep ms ms _ LM.out LM.out (HO7.out.below hX.out) ((HA.out.m.below HB7.out).below hX.out) (by rw [← LM.out]; exact gm)).mono ?_
      rintro e w8 ⟨rfl, hb8⟩
      rw [sameC_refl]
      have hX8 := Lib.hid (hX.out.trans (hb8.mono hX.out.size))
      have HB8 := Lib.hid (HB7.out.trans (hX8.out.mono HB7.out.size))
      have K8 := Lib.hid (blk_later hX8.out K7.out)
      have KL8 := Lib.hid (blk_later hX8.out KL7.out)
      have HV8 := Lib.hid (HV7.out.below hX8.out)
      clear hb8 hX hX8 a0 a1 a2 a3 a4 l0 l1 l2 l3 l4 z0 zz
      obtain ⟨a0, a1, a2, a3, a4⟩ := four K8.out
      obtain ⟨l0, l1, l2, l3, l4⟩ := four KL8.out
      have z0 : w.heap.size < w8.heap.size := heap_lt K8.out
      have zz : L < w8.heap.size := heap_lt KL8.out
      go_wp2_with fail
      have wd1 := Wd.cell a1 z0
      have wl0 := Wd.cell l0 zz
      have wl1 := Wd.cell l1 zz
      have wl2 := Wd.cell l2 zz
      have wl3 := Wd.cell l3 zz
      have hcall : ∀ i : Wd w8, Calls Tryd.prog 16 #[.agg #[.int .i64 la.client, .int .i64 la.num, .int .i64 la.code, .slice Av la.vals.length cv], .agg #[.int .i64 0, .int .i64 0, .int .i64 0, .slice none 0 0]] i.wd
          fun e w' => e = .returned (.bool true) ∧ Below i.wd.heap.size i.wd w' := fun i => by
        have := SameR_any _ (fun _ => True) Av none _ cv 0 0 la ⟨0, 0, 0, []⟩ i.wd rfl rfl (HV8.out.below i.be) (Row.nil _ _ _ _) (by rw [HLR.out]; decide)
        rw [HLR.out, sameR_refl] at this
        rw [HLR.out]
        exact this
      refine region_wd _ (by kernel_rfl) (by kernel_rfl) ?_
      repeat (go_big_quiet_step (exact Wd.call _ (hcall _)))
      refine wpQuiet_nil ?_
      rintro _ ⟨i, rfl⟩
      go_wp2_with fail
      go_ret
      exact ⟨rfl, HB8.out.trans (i.be.mono HB8.out.size)⟩
    · have e1 := place_has RP.out hp
      have hlt := findP_lt hp
      have e2 : getV ps key = valOf ps (findP ps key) := by rw [getV, if_pos hp]
      rw [e1, e2]
      have hltn : findP ps key < np := by rw [← LP.out]; exact hlt
      obtain ⟨pf, hpf⟩ : ∃ pf, pf = findP ps key := ⟨_, rfl⟩
      rw [← hpf] at hlt hltn ⊢
      obtain ⟨gP, offP, hAP, hgP, r0, r1⟩ := (HA.out.p.below HB6.out).pair hlt
      subst hAP
      clear hpf e1 e2 r0
      have f1 := last_has RR.out hr
      have hlr := findR_lt hr
      have HLR := Lib.hid (show la = repOf rs (findR rs client) from by rw [HLA.out, lastR, if_pos hr])
      have hlrn : findR rs client < nr := by rw [← LR.out]; exact hlr
      rw [f1]
      obtain ⟨rf, hrf⟩ : ∃ rf, rf = findR rs client := ⟨_, rfl⟩
      rw [← hrf] at hlr hlrn HLR ⊢
      clear hrf f1
      obtain ⟨a0, a1, a2, a3, a4⟩ := four K6.out
      obtain ⟨l0, l1, l2, l3, l4⟩ := four KL6.out
      have z0 : w.heap.size < w6.heap.size := heap_lt K6.out
      have zz : L < w6.heap.size := heap_lt KL6.out
      go_wp2_with fail
      refine (new_any _ Am nm cm ep ms _ LM.out (HA.out.m.below HB6.out) gm).mono ?_
      rintro e w7 ⟨A7, c7, rfl, hc7, ho7, hb7⟩
      have HB7 := Lib.hid (HB6.out.trans (hb7.mono HB6.out.size))
      have K7 := Lib.hid (blk_later hb7 K6.out)
      have KL7 := Lib.hid (blk_later hb7 KL6.out)
      have HV7 := Lib.hid (HV6.out.below hb7)
      have HO7 := Lib.hid ho7.rowOf
      clear hb7 ho7 hc7 a0 a1 a2 a3 a4 l0 l1 l2 l3 l4 z0 zz
      rw [LM.out]
      obtain ⟨a0, a1, a2, a3, a4⟩ := four K7.out
      obtain ⟨l0, l1, l2, l3, l4⟩ := four KL7.out
      have z0 : w.heap.size < w7.heap.size := heap_lt K7.out
      have zz : L < w7.heap.size := heap_lt KL7.out
      go_wp2_with fail
      have hX := Lib.hid (show Below w7.heap.size w7 (w7.alloc (.cells #[.slice none 0 0, .slice none 0 0, .int .i64 ep, .slice A7 nm c7] 28)) from (Below.refl _ _).alloc (Nat.le_refl _) _)
      refine (SameC_any _ _ A7 Am nm c7 nm cm ep ep ms ms _ LM.out LM.out (HO7.out.below hX.out) ((HA.out.m.below HB7.out).below hX.out) (by rw [← LM.out]; exact gm)).mono ?_
      rintro e w8 ⟨rfl, hb8⟩
      rw [sameC_refl]
      have hX8 := Lib.hid (hX.out.trans (hb8.mono hX.out.size))
      have HB8 := Lib.hid (HB7.out.trans (hX8.out.mono HB7.out.size))
      have K8 := Lib.hid (blk_later hX8.out K7.out)
      have KL8 := Lib.hid (blk_later hX8.out KL7.out)
      have HV8 := Lib.hid (HV7.out.below hX8.out)
      clear hb8 hX hX8 a0 a1 a2 a3 a4 l0 l1 l2 l3 l4 z0 zz
      obtain ⟨a0, a1, a2, a3, a4⟩ := four K8.out
      obtain ⟨l0, l1, l2, l3, l4⟩ := four KL8.out
      have z0 : w.heap.size < w8.heap.size := heap_lt K8.out
      have zz : L < w8.heap.size := heap_lt KL8.out
      go_wp2_with fail
      have wd1 := Wd.cell a1 z0
      have wl0 := Wd.cell l0 zz
      have wl1 := Wd.cell l1 zz
      have wl2 := Wd.cell l2 zz
      have wl3 := Wd.cell l3 zz
      obtain ⟨gR, offR, Bv, bv, hAR, hgR, k0, k1, k2, k3, k4, k5⟩ := (HA.out.r.below HB8.out).at hlr
      subst hAR
      have wk0 := Wd.cell k0 hgR
      have wk1 := Wd.cell k1 hgR
      have wk2 := Wd.cell k2 hgR
      have wk3 := Wd.cell k3 hgR
      have hcall : ∀ i : Wd w8, Calls Tryd.prog 16 #[.agg #[.int .i64 la.client, .int .i64 la.num, .int .i64 la.code, .slice Av la.vals.length cv], .agg #[.int .i64 (repOf rs rf).client, .int .i64 (repOf rs rf).num, .int .i64 (repOf rs rf).code, .slice Bv (repOf rs rf).vals.length bv]] i.wd
          fun e w' => e = .returned (.bool true) ∧ Below i.wd.heap.size i.wd w' := fun i => by
        have := SameR_any _ _ Av Bv _ cv _ bv la (repOf rs rf) i.wd rfl rfl (HV8.out.below i.be) (k5.below i.be) (by rw [HLR.out]; exact Nat.le_trans (GV.out rf) (by decide))
        rw [HLR.out, sameR_refl] at this
        rw [HLR.out]
        exact this
      clear k0 k1 k2 k3 k4
      refine region_wd _ (by kernel_rfl) (by kernel_rfl) ?_
      repeat (go_big_quiet_step (exact Wd.call _ (hcall _)))
      refine wpQuiet_nil ?_
      rintro _ ⟨i, rfl⟩
      go_wp2_with fail
      go_ret
      exact ⟨rfl, HB8.out.trans (i.be.mono HB8.out.size)⟩
end Go.Proofs.YtchnnplcpidkiaaDoor
