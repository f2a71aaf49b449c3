/-
  StateParts returns true for every registry and every two requests, and leaves what came in as it was. No condition beyond the row's own.
-/
import Derived.Test.YtchnnplcpidkiaaDoorLed
import Derived.Test.YtchnnplcpidkiaaDoorOpq
import Derived.Test.YtchnnplcpidkiaaDoorPrt
namespace Go.Proofs.YtchnnplcpidkiaaDoor
open Go.ChangeShapes Go.WideShapes Go.ChangeAt Go.WideMaps Go.WideElems Go.RowKit

theorem fit_at {H : Type} {ts : List TypeId} {ds : List (DataW H)} (h : (DataW.weightsEach Tryd.prog ts ds).all (· ≤ reachBytes) = true) {j : Nat} {t : TypeId} {d : DataW H} (ht : ts[j]? = some t) (hd : ds[j]? = some d) : Fit t d := fun n hn => by
  have := List.all_eq_true.1 h n (DataW.weights_mem_each ht hd n hn)
  simpa using this

set_option maxRecDepth 100000 in
theorem stateParts_lifted (os : Os) (started : os.Started) (H : Type) (enc : TypeId × Value → H) :
    ReturnsInHanded {} Tryd.checked os 6 .any (fun w args => (Rows.statePartsSpec.pre enc Tryd.prog Tryd.f6 [] false w args ∧ laidMetH Tryd.prog laidL w) ∧ sizedMet enc Tryd.prog Tryd.f6 (OpenSpec.ofChange Rows.statePartsSpec) false w args)
      (Rows.statePartsSpec.post enc Tryd.prog Tryd.f6 false true false false) := by
  refine returnsInHanded_of_change_and (C := Tryd.checked) (X := fun w _ => laidMetH Tryd.prog laidL w) (fun _ _ _ hh h => h.of_heap hh) own started (by kernel_rfl) Tryd.func6
    (ChangeSpec.witness_shaped (enc := enc) (C := Tryd.checked) (os := os) (X := fun w _ => laidMetH Tryd.prog laidL w) false (World.doorLaid Tryd.prog 400 os) #[.agg #[.slice none 0 0, .slice none 0 0, .int .i64 0, .slice none 0 0], .agg (#[.int .i64 0, .int .i64 0, .int .i64 0, .string ByteArray.empty, .string ByteArray.empty, .string ByteArray.empty, .int .i64 0, .int .i64 0, .int .i64 0] ++ Array.replicate 32 (.int .u8 0) ++ #[.int .i64 0]), .agg (#[.int .i64 0, .int .i64 0, .int .i64 0, .string ByteArray.empty, .string ByteArray.empty, .string ByteArray.empty, .int .i64 0, .int .i64 0, .int .i64 0] ++ Array.replicate 32 (.int .u8 0) ++ #[.int .i64 0])] 8 rfl (World.shaped_of_RefB (by kernel_rfl) (by kernel_rfl)) (by kernel_rfl) (by kernel_rfl) (by kernel_rfl) (door_met os _)) ?_
  intro W base args ds gs before hval0 hW _ hsz0 hL _
  have hval : ∀ (j : Nat) t v, Tryd.f6.params[j]? = some t → args[j]? = some v → Value.okWide Tryd.prog W .any base t v := hval0
  have hsz : (DataW.weightsEach Tryd.prog (Tryd.f6.params.toList ++ Rows.statePartsSpec.plain.varTypes Tryd.prog) (ds ++ gs)).all (· ≤ reachBytes) = true := hsz0
  have hW' := hW
  obtain ⟨p, q, hA0, hV, rfl, hfz, hnd⟩ := hW
  have hA : DataW.TrodAll enc Tryd.prog W 0 (fun _ => true) true Tryd.f6.params.toList args.toList ds p := hA0
  rw [Tryd.params6] at hA hval hsz
  obtain ⟨v0, v1, v2, d0, d1, d2, p0, p1, p2, rfl, rfl, rfl, h0, h1, h2⟩ := trodAll_three hA
  obtain ⟨rfl, rfl⟩ := trodVars_none hV
  clear hA0 hval0 hsz0
  simp only [List.append_nil] at hW'
  have hlt : ∀ x ∈ p0 ++ p1 ++ p2, x.block < W.heap.size := fun x hx => by simpa using hW'.lt x (by simpa using hx)
  obtain ⟨cs0, rfl, hcs0⟩ := okWide_struct Tryd.underlying28 (hval 0 28 v0 rfl rfl)
  have h0k := h0
  obtain ⟨fuel0, hf0⟩ := h0
  obtain ⟨s, ⟨Ap, cp, Ar, cr, Am, cm, hc, hsv⟩, hs1, hs2, hs3⟩ := open_st hf0 (fit_at hsz (j := 0) rfl rfl)
  have hc' : cs0 = #[.slice Ap s.pairs.length cp, .slice Ar s.reps.length cr, .int .i64 s.epoch, .slice Am s.mbs.length cm] := by
    have hc : cs0.toList = _ := hc
    rw [← Array.toArray_toList (xs := cs0), hc]
  subst hc'
  obtain ⟨cs1, rfl, hcs1⟩ := okWide_struct Tryd.underlying56 (hval 1 56 v1 rfl rfl)
  have h1k := h1
  obtain ⟨fuel1, hf1⟩ := h1
  obtain ⟨q1, hq1, hk1, hv1, ho1⟩ := open_req hf1 (fit_at hsz (j := 1) rfl rfl)
  have hq1' : cs1 = q1.arr := by
    have hc : cs1.toList = _ := hq1
    rw [← Array.toArray_toList (xs := cs1), hc]
    rfl
  subst hq1'
  obtain ⟨cs2, rfl, hcs2⟩ := okWide_struct Tryd.underlying56 (hval 2 56 v2 rfl rfl)
  have h2k := h2
  obtain ⟨fuel2, hf2⟩ := h2
  obtain ⟨q2, hq2, hk2, hv2, ho2⟩ := open_req hf2 (fit_at hsz (j := 2) rfl rfl)
  have hq2' : cs2 = q2.arr := by
    have hc : cs2.toList = _ := hq2
    rw [← Array.toArray_toList (xs := cs2), hc]
    rfl
  subst hq2'
  refine (parts_any Ap Ar Am cp cr cm s q1 q2 W hsv hs1 hs2 hs3 ⟨hk1, hv1, ho1⟩ ⟨hk2, hv2, ho2⟩ (led hL)).mono ?_
  rintro e W' ⟨rfl, bel⟩
  have e1 : Rows.statePartsSpec.fn H ([d0, d1, d2] ++ []) = { results := [.lit (.bool true)], args := [d0, d1, d2] } := rfl
  refine ⟨_, rfl, _, _, _, [], p0 ++ (p1 ++ (p2)), [], hW', ?_, ?_, ?_, bel.frame _, fun h => by cases h⟩
  · rw [e1]; exact trodAll_mk1 (shut_bool Tryd.underlying4 _)
  · rw [e1]
    exact trodAll_cons_mk (Below.trod laidOut (by kernel_rfl) (of_decide_eq_true (by kernel_rfl)) h0k bel (fun x hx => hlt x (by simp [hx]))) (trodAll_cons_mk (Below.trod laidOut (by kernel_rfl) (of_decide_eq_true (by kernel_rfl)) h1k bel (fun x hx => hlt x (by simp [hx]))) (trodAll_mk1 (Below.trod laidOut (by kernel_rfl) (of_decide_eq_true (by kernel_rfl)) h2k bel (fun x hx => hlt x (by simp [hx])))))
  · rw [e1]; rfl

theorem stateParts_holds : Rows.StatePartsSaid :=
  OpenClaim.holds_of_wide 6 Tryd.f6 rfl rfl rfl rfl rfl rfl rfl ⟨rfl, rfl, rfl, rfl, rfl⟩ rfl rfl rfl rfl rfl (by kernel_rfl) Tryd.func6 (by kernel_rfl)
    (of_decide_eq_true (by kernel_rfl)) (by unfold Func.isWrapper; first | (rw [if_pos (by decide +kernel)]; kernel_rfl) | (rw [if_neg (by decide +kernel)]; exact ⟨rfl, rfl⟩))
    (fun os started H enc _ => stateParts_lifted os started H enc)
#print axioms stateParts_holds
end Go.Proofs.YtchnnplcpidkiaaDoor
