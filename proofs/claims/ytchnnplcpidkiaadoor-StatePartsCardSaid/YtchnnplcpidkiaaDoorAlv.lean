/-
  What the laws' own example computes.
-/
import Derived.Test.YtchnnplcpidkiaaDoorAll
namespace Go.Proofs.YtchnnplcpidkiaaDoor
open Go.RowKit

def bA : ByteArray := ⟨#[97]⟩
def b0 : ByteArray := ⟨#[48]⟩
def b1 : ByteArray := ⟨#[49]⟩
def b2 : ByteArray := ⟨#[50]⟩
def bE : ByteArray := ⟨#[]⟩
def s0 : St := ⟨[], [], 0, fourMs⟩
def qA : Req := ⟨1, 1, 2, bA, b1, bE, 0, 0, 0, Vector.replicate 32 0, 0⟩
def qB : Req := ⟨2, 1, 4, bA, b2, b0, 0, 0, 0, Vector.replicate 32 0, 0⟩
theorem alv_codes : (allR s0 [qA, qB]).map (·.code) = [0, 9] := by kernel_rfl
theorem alv_has : hasP (allS s0 [qA, qB]).pairs bA = true := by kernel_rfl
theorem alv_get : (getV (allS s0 [qA, qB]).pairs bA).toList = [49] := by kernel_rfl

theorem s0_bd : BdS 0 s0 := by
  refine ⟨by decide, by decide, by decide, ?_, by decide, ?_⟩
  · intro r hr; cases hr
  · intro m hm
    simp only [s0, fourMs, List.mem_cons, List.not_mem_nil, or_false] at hm
    rcases hm with h | h | h | h <;> (rw [h]; decide)
theorem alv_0 : (repOf (allR s0 [qA, qB]) 0).code = 0 := by kernel_rfl
theorem alv_1 : (repOf (allR s0 [qA, qB]) 1).code = 9 := by kernel_rfl
theorem Reps.nil (w : World) (T Tv : TypeId → Prop) (A : Option Addr) : Reps w T Tv A [] := ⟨[], rfl, Row.nil _ _ _ _, fun k e r h => by simp at h⟩
def AlivePost (w : World) (E : Ending) (w' : World) : Prop := E = .returned (.bool true) ∧ Below w.heap.size w w'

set_option maxHeartbeats 2000000 in
set_option maxRecDepth 100000 in
theorem alive_any (w : World) (ht : Tab w.heap.size w) : Calls Tryd.prog 8 #[] w (AlivePost w) := by
  have HT := Lib.hid ht
  clear ht
  go_enter Tryd.func8, Tryd.ntmps8
  go_wp2_with fail
  refine (four_any _).mono ?_
  rintro e w1 ⟨A, rfl, hrow, hb1⟩
  have HB1 := Lib.hid hb1
  have HROW := Lib.hid hrow
  clear hrow hb1
  go_wp2_with fail
  refine (new_any (fun _ => True) A 4 4 0 fourMs _ rfl HROW.out (by decide)).mono ?_
  rintro e w2 ⟨A2, c2, rfl, hc2, ho2, hb2⟩
  have HB2 := Lib.hid (HB1.out.trans (hb2.mono HB1.out.size))
  have HO2 := Lib.hid ho2
  clear ho2 hb2 hc2
  go_wp2_with fail
  have hrq := fun cs hc => row_lit w2 56 42 [qA.cells, qB.cells] cs (by intro y hy; simp only [List.mem_cons, List.not_mem_nil, or_false] at hy; rcases hy with h | h <;> (rw [h]; exact Req.len _)) hc
  have hs2 : w.heap.size ≤ w2.heap.size := HB2.out.size
  refine (All_any none none A2 0 0 c2 0 s0 (fun t => t = 56) (some ⟨w2.heap.size, 0, none⟩) 2 2 [qA, qB] _ ⟨Row.nil _ _ _ _, Reps.nil _ _ _ _, (HO2.out.rowOf.weaken fun _ _ => trivial).below ((Below.refl _ _).alloc (Nat.le_refl _) _)⟩ s0_bd (by decide) rfl
    (hrq _ (by kernel_rfl)) ((HT.out.below (HB2.out.alloc hs2 _)).mono (by rw [World.size_alloc]; omega))).mono ?_
  rintro e w3 ⟨Ap, cp, Ar, cr, Am, cm, A3, c3, rfl, hsv, hreps, hb3⟩
  have hl : (allR s0 [qA, qB]).length = 2 := rfl
  rw [hl]
  have HB3 := Lib.hid ((HB2.out.alloc hs2 _).trans (hb3.mono (by rw [World.size_alloc]; omega)))
  obtain ⟨S, hS⟩ : ∃ S, S = allS s0 [qA, qB] := ⟨_, rfl⟩
  obtain ⟨R, hR⟩ : ∃ R, R = allR s0 [qA, qB] := ⟨_, rfl⟩
  have g1 := alv_has
  have g2 := alv_get
  have g3 := alv_0
  have g4 := alv_1
  rw [← hS] at hsv g1 g2 ⊢
  rw [← hR] at hreps hl g3 g4
  have GG := Lib.hid g2
  have G1 := Lib.hid g1
  have HSV := Lib.hid hsv
  have HRP := Lib.hid hreps
  have HL := Lib.hid hl
  have G3 := Lib.hid g3
  have G4 := Lib.hid g4
  have sp := Lib.hid (show S.pairs.length ≤ 1000000 from Nat.le_trans (by rw [hS]; exact (allS_bd s0_bd [qA, qB]).p) (by decide))
  clear hS hR g1 g2 g3 g4 hsv hreps hl hb3 hrq hs2
  go_wp2_with fail
  have hX := Lib.hid (show Below w3.heap.size w3 (w3.alloc (.cells #[.slice Ap S.pairs.length cp, .slice Ar S.reps.length cr, .int .i64 S.epoch, .slice Am S.mbs.length cm] 28)) from (Below.refl _ _).alloc (Nat.le_refl _) _)
  refine (Get_any (fun _ => True) Ap _ S.pairs cp _ _ _ bA _ rfl (HSV.out.p.below hX.out) sp.out).mono ?_
  rintro e w4 ⟨rfl, hb4⟩
  rw [G1.out]
  have HB4 := Lib.hid (HB3.out.trans ((hX.out.trans (hb4.mono (by rw [World.size_alloc]; omega))).mono HB3.out.size))
  have HRP4 := Lib.hid (HRP.out.below (hX.out.trans (hb4.mono (by rw [World.size_alloc]; omega))))
  obtain ⟨g, off, Av, cv, hA, hg, j0, j1, j2, j3, j4, j5⟩ := HRP4.out.at (k := 0) (by rw [HL.out]; decide)
  obtain ⟨g', off', Av', cv', hA', hg', k0, k1, k2, k3, k4, k5⟩ := HRP4.out.at (k := 1) (by rw [HL.out]; decide)
  subst hA
  cases hA'
  rw [G3.out] at j2
  rw [G4.out] at k2
  simp only [Nat.zero_mul, Nat.one_mul, Nat.add_zero] at j2 k2
  have GV := GG.out
  clear j0 j1 j3 j4 j5 k0 k1 k3 k4 k5 hb4 hX
  go_wp2_with fail
  go_ret
  exact ⟨rfl, HB4.out⟩
end Go.Proofs.YtchnnplcpidkiaaDoor
