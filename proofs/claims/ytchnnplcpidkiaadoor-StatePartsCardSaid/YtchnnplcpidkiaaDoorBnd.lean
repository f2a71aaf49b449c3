/-
  The bounds that a registry keeps to, from request to request.
-/
import Derived.Test.YtchnnplcpidkiaaDoorApp
namespace Go.Proofs.YtchnnplcpidkiaaDoor
open Go.RowKit

structure BdS (n : Nat) (s : St) : Prop where
  p : s.pairs.length ≤ 300
  r : s.reps.length ≤ n
  m : s.mbs.length ≤ 20
  v : ∀ r ∈ s.reps, r.vals.length ≤ 300
  e : -9223372036854775808 ≤ s.epoch ∧ s.epoch ≤ 9223372036854775807
  i : ∀ m ∈ s.mbs, -9223372036854775808 ≤ m.id ∧ m.id ≤ 9223372036854775807

theorem repOf_mem {rs : List Rp} {k : Nat} (hk : k < rs.length) : repOf rs k ∈ rs := by
  have : repOf rs k = rs[k] := by simp [repOf, List.getD_eq_getElem?_getD, hk]
  rw [this]; exact List.getElem_mem hk
theorem repOf_out {rs : List Rp} {k : Nat} (hk : ¬ k < rs.length) : repOf rs k = ⟨0, 0, 0, []⟩ := by
  have : rs[k]? = none := by simp; omega
  simp [repOf, List.getD_eq_getElem?_getD, this]; rfl
theorem mbOf_mem {ms : List Mb} {k : Nat} (hk : k < ms.length) : mbOf ms k ∈ ms := by
  have : mbOf ms k = ms[k] := by simp [mbOf, List.getD_eq_getElem?_getD, hk]
  rw [this]; exact List.getElem_mem hk
theorem BdS.vk {n : Nat} {s : St} (h : BdS n s) (k : Nat) : (repOf s.reps k).vals.length ≤ 1000000 := by
  by_cases hk : k < s.reps.length
  · have := h.v _ (repOf_mem hk); omega
  · rw [repOf_out hk]; simp
theorem BdS.ik {n : Nat} {s : St} (h : BdS n s) (k : Nat) : -9223372036854775808 ≤ (mbOf s.mbs k).id ∧ (mbOf s.mbs k).id ≤ 9223372036854775807 := by
  by_cases hk : k < s.mbs.length
  · exact h.i _ (mbOf_mem hk)
  · have : s.mbs[k]? = none := by simp; omega
    have e : mbOf s.mbs k = default := by simp [mbOf, List.getD_eq_getElem?_getD, this]
    rw [e]
    exact ⟨by decide, by decide⟩
theorem BdS.mono {n m : Nat} {s : St} (h : BdS n s) (hm : n ≤ m) : BdS m s := ⟨h.p, Nat.le_trans h.r hm, h.m, h.v, h.e, h.i⟩

theorem putP_len {ps : List Pr} {key val : ByteArray} (h : ps.length ≤ 300) : (putP ps key val).length ≤ 300 := by
  unfold putP setP insP
  split
  · simpa using h
  · split
    · exact h
    · have := bs_le (ltP ps key) ps.length
      simp only [List.length_append, List.length_take, List.length_cons, List.length_drop, findP]; omega
theorem goodM_parts {ep : Int} {ms : List Mb} (h : goodM ep ms = true) : 0 ≤ ep ∧ ep ≤ 1073741824 ∧ ms.length ≤ 10 := by
  simp only [goodM, Bool.and_eq_true, decide_eq_true_eq] at h
  exact ⟨h.1.1.1.1, h.1.1.1.2, h.1.2⟩
theorem cfg_zero {ep : Int} {ms : List Mb} {g : Chg} (h : cfgCode ep ms g = 0) : goodM ep ms = true ∧ (g.kind ≠ 2 → rightM g.mb = true) := by
  unfold cfgCode at h
  split at h
  · cases h
  split at h
  · cases h
  rename_i h1 h2
  refine ⟨?_, fun hk => ?_⟩
  · cases hg : goodM ep ms
    · exact absurd (Or.inl hg) h1
    · rfl
  · cases hr : rightM g.mb
    · exact absurd ⟨hk, hr⟩ h2
    · rfl
theorem delMs_len {ms : List Mb} {g : Chg} : (delMs ms g).length ≤ ms.length := by
  unfold delMs
  split
  · exact Nat.le_refl _
  · simp only [List.length_append, List.length_take, List.length_drop]; omega
theorem delMs_mem {ms : List Mb} {g : Chg} {m : Mb} (h : m ∈ delMs ms g) : m ∈ ms := by
  unfold delMs at h
  split at h
  · exact h
  · rcases List.mem_append.1 h with h | h
    · exact List.mem_of_mem_take h
    · exact List.mem_of_mem_drop h
theorem cfgMs_len {ms : List Mb} {g : Chg} (h : ms.length ≤ 10) : (cfgMs ms g).length ≤ 20 := by
  have h1 := delMs_len (ms := ms) (g := g)
  unfold cfgMs
  split
  · omega
  · have := bs_le (ltM (delMs ms g) g.mb.id) (delMs ms g).length
    simp only [insMs, List.length_append, List.length_take, List.length_cons, List.length_drop, findM]; omega
theorem cfgMs_mem {ms : List Mb} {g : Chg} {m : Mb} (h : m ∈ cfgMs ms g) : m ∈ ms ∨ (g.kind ≠ 2 ∧ m = g.mb) := by
  unfold cfgMs at h
  split at h
  · exact .inl (delMs_mem h)
  · rename_i hk
    unfold insMs at h
    rcases List.mem_append.1 h with h | h
    · exact .inl (delMs_mem (List.mem_of_mem_take h))
    · rcases List.mem_cons.1 h with rfl | h
      · exact .inr ⟨hk, rfl⟩
      · exact .inl (delMs_mem (List.mem_of_mem_drop h))

theorem doesS_bd {n : Nat} {s : St} {q : Req} (h : BdS n s) : BdS n (doesS s q) := by
  unfold doesS
  split
  · exact ⟨putP_len h.p, h.r, h.m, h.v, h.e, h.i⟩
  split
  · split
    · refine ⟨?_, h.r, h.m, h.v, h.e, h.i⟩
      have := h.p
      simp only [delP, List.length_append, List.length_take, List.length_drop]; omega
    · exact h
  split
  · split
    · refine ⟨?_, h.r, h.m, h.v, h.e, h.i⟩
      have := h.p
      simpa [setP] using this
    · exact h
  split
  · split
    · rename_i hc
      obtain ⟨hg, hr⟩ := cfg_zero hc
      obtain ⟨g1, g2, g3⟩ := goodM_parts hg
      refine ⟨h.p, h.r, cfgMs_len g3, h.v, ⟨by show _ ≤ s.epoch + 1; omega, by show s.epoch + 1 ≤ _; omega⟩, fun m hm => ?_⟩
      rcases cfgMs_mem hm with hm | ⟨hk, rfl⟩
      · exact h.i m hm
      · have := hr hk
        simp only [rightM, decide_eq_true_eq] at this
        omega
    · exact h
  · exact h
theorem doesS_reps (s : St) (q : Req) : (doesS s q).reps = s.reps := by
  unfold doesS
  (repeat' split) <;> rfl
theorem doesV_le {n : Nat} {s : St} {q : Req} (h : BdS n s) : (doesV s q).length ≤ 300 := by
  have h1 := h.p
  have h2 := h.m
  have h5 : (scanP s.pairs q.key).length ≤ s.pairs.length := by rw [scanP, List.length_map]; exact List.length_filter_le _ _
  unfold doesV
  (repeat' split) <;> simp <;> omega
theorem putR_len {rs : List Rp} {r : Rp} : (putR rs r).length ≤ rs.length + 1 := by
  unfold putR insR
  split
  · simp
  · simp only [List.length_append, List.length_take, List.length_cons, List.length_drop]; omega
theorem putR_mem {rs : List Rp} {r x : Rp} (h : x ∈ putR rs r) : x ∈ rs ∨ x = r := by
  unfold putR insR at h
  split at h
  · exact List.mem_or_eq_of_mem_set h
  · rcases List.mem_append.1 h with h | h
    · exact .inl (List.mem_of_mem_take h)
    · rcases List.mem_cons.1 h with rfl | h
      · exact .inr rfl
      · exact .inl (List.mem_of_mem_drop h)
theorem BdS.step {n : Nat} {s : St} {q : Req} (h : BdS n s) : BdS (n + 1) (applyS s q) := by
  unfold applyS
  split
  · exact h.mono (by omega)
  split
  · exact h.mono (by omega)
  · have hd := doesS_bd (q := q) h
    refine ⟨hd.p, ?_, hd.m, fun r hr => ?_, hd.e, hd.i⟩
    · have := putR_len (rs := s.reps) (r := newR s q); have := h.r
      show (putR s.reps (newR s q)).length ≤ n + 1; omega
    · rcases putR_mem hr with hr | rfl
      · exact h.v r hr
      · exact doesV_le h
theorem applyR_vals {n : Nat} {s : St} {q : Req} (h : BdS n s) : (applyR s q).vals.length ≤ 300 := by
  unfold applyR
  split
  · simp
  split
  · split
    · unfold lastR
      split
      · rename_i hh
        exact h.v _ (repOf_mem (findR_lt hh))
      · simp
    · simp
  · exact doesV_le h
end Go.Proofs.YtchnnplcpidkiaaDoor
