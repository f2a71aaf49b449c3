/-
  The plain law of searching: in rows that rise, the binary search finds what a scan finds.
-/
import Derived.Test.YtchnnplcpidkiaaDoorRefd
namespace Go.Proofs.YtchnnplcpidkiaaDoor
open Go.RowKit

/-! ### the order of texts -/
theorem bl_irrefl : ∀ x : List UInt8, Op.bytesLess x x = false
  | [] => rfl
  | a :: x => by simp [Op.bytesLess, bl_irrefl x]
theorem bl_trans : ∀ x y z : List UInt8, Op.bytesLess x y = true → Op.bytesLess y z = true → Op.bytesLess x z = true
  | _, [], _, h, _ => by simp [Op.bytesLess] at h
  | _, _ :: _, [], _, h => by simp [Op.bytesLess] at h
  | [], _ :: _, _ :: _, _, _ => rfl
  | a :: x, b :: y, c :: z, h1, h2 => by
    simp only [Op.bytesLess, Bool.or_eq_true, decide_eq_true_eq, Bool.and_eq_true, beq_iff_eq] at h1 h2 ⊢
    rcases h1 with h1 | ⟨rfl, h1⟩
    · rcases h2 with h2 | ⟨rfl, h2⟩
      · exact .inl (UInt8.lt_trans h1 h2)
      · exact .inl h1
    · rcases h2 with h2 | ⟨rfl, h2⟩
      · exact .inl h2
      · exact .inr ⟨rfl, bl_trans x y z h1 h2⟩
theorem bl_tri : ∀ x y : List UInt8, Op.bytesLess x y = false → Op.bytesLess y x = false → x = y
  | [], [], _, _ => rfl
  | [], _ :: _, h, _ => by simp [Op.bytesLess] at h
  | _ :: _, [], _, h => by simp [Op.bytesLess] at h
  | a :: x, b :: y, h1, h2 => by
    simp only [Op.bytesLess, Bool.or_eq_false_iff, decide_eq_false_iff_not, Bool.and_eq_false_imp, beq_iff_eq] at h1 h2
    have e : a = b := UInt8.le_antisymm (UInt8.not_lt.1 h2.1) (UInt8.not_lt.1 h1.1)
    subst e
    rw [bl_tri x y (h1.2 rfl) (h2.2 rfl)]

theorem cmpS_neg {a b : ByteArray} : cmpS a b < 0 ↔ Op.bytesLess a.toList b.toList = true := by
  unfold cmpS
  split
  · rename_i h; simp [h]
  · rename_i h
    split <;> simp [h]
theorem cmpS_zero {a b : ByteArray} : cmpS a b = 0 ↔ a.toList = b.toList := by
  unfold cmpS
  split
  · rename_i h
    constructor
    · intro h'; cases h'
    · intro e; rw [e, bl_irrefl] at h; cases h
  · split
    · rename_i h1 h2; simpa using h2
    · rename_i h1 h2
      constructor
      · intro h'; cases h'
      · intro e; exact absurd (by simpa using e) h2
theorem cmpI_neg {a b : Int} : cmpI a b < 0 ↔ a < b := by
  unfold cmpI
  split
  · rename_i h; simp [h]
  · rename_i h
    split <;> simp [h]
theorem cmpI_zero {a b : Int} : cmpI a b = 0 ↔ a = b := by
  unfold cmpI
  split
  · rename_i h
    constructor
    · intro h'; cases h'
    · intro e; omega
  · split
    · constructor
      · intro h'; cases h'
      · intro e; omega
    · simp; omega

/-! ### the binary search -/
theorem bsLoop_spec (lt : Nat → Bool) (n : Nat) (hm : ∀ i j, i ≤ j → j < n → lt j = true → lt i = true) : ∀ f i j, i ≤ j → j ≤ n → j < f + i →
    (∀ k, k < i → lt k = true) → (∀ k, j ≤ k → k < n → lt k = false) →
    (∀ k, k < bsLoop lt f i j → lt k = true) ∧ (∀ k, bsLoop lt f i j ≤ k → k < n → lt k = false) := by
  intro f
  induction f with
  | zero => intro i j h1 h2 h3; omega
  | succ f ih =>
    intro i j h1 h2 h3 h4 h5
    rw [bsLoop]
    by_cases hij : i < j
    · rw [if_pos hij]
      cases hl : lt ((i + j) / 2)
      · rw [if_neg (by decide)]
        refine ih i ((i + j) / 2) (by omega) (by omega) (by omega) h4 fun k hk1 hk2 => ?_
        cases hk : lt k
        · rfl
        · rw [hm _ k hk1 hk2 hk] at hl; cases hl
      · rw [if_pos rfl]
        refine ih ((i + j) / 2 + 1) j (by omega) h2 (by omega) (fun k hk => ?_) h5
        exact hm k ((i + j) / 2) (by omega) (by omega) hl
    · rw [if_neg hij]
      exact ⟨h4, fun k hk1 hk2 => h5 k (by omega) hk2⟩
theorem bs_spec (lt : Nat → Bool) (n : Nat) (hm : ∀ i j, i ≤ j → j < n → lt j = true → lt i = true) :
    (∀ k, k < bs lt n → lt k = true) ∧ (∀ k, bs lt n ≤ k → k < n → lt k = false) :=
  bsLoop_spec lt n hm (n + 1) 0 n (Nat.zero_le _) (Nat.le_refl _) (by omega) (fun k hk => by omega) (fun k h1 h2 => by omega)

/-! ### pairs -/
theorem risesP_lt {ps : List Pr} (h : risesP ps = true) : ∀ j i, i < j → j < ps.length → Op.bytesLess (keyOf ps i).toList (keyOf ps j).toList = true := by
  have h' : ∀ i, i < ps.length → dipP ps i = false := of_decide_eq_true h
  have step : ∀ i, i + 1 < ps.length → Op.bytesLess (keyOf ps i).toList (keyOf ps (i + 1)).toList = true := fun i hi => by
    have := h' (i + 1) hi
    simpa [dipP] using this
  intro j
  induction j with
  | zero => intro i hi; omega
  | succ j ih =>
    intro i hi hj
    by_cases hij : i = j
    · subst hij; exact step i hj
    · exact bl_trans _ _ _ (ih i (by omega) (by omega)) (step j hj)
theorem ltP_iff {ps : List Pr} {key : ByteArray} {k : Nat} : ltP ps key k = true ↔ Op.bytesLess (keyOf ps k).toList key.toList = true := by
  rw [ltP, decide_eq_true_iff, cmpS_neg]
theorem ltP_mono {ps : List Pr} (h : risesP ps = true) (key : ByteArray) : ∀ i j, i ≤ j → j < ps.length → ltP ps key j = true → ltP ps key i = true := by
  intro i j hij hj hl
  rcases Nat.lt_or_ge i j with h' | h'
  · rw [ltP_iff] at hl ⊢
    exact bl_trans _ _ _ (risesP_lt h j i h' hj) hl
  · have : i = j := by omega
    rw [this]; exact hl
/-- The first place whose key is not below the one sought. -/
theorem findP_spec {ps : List Pr} (h : risesP ps = true) (key : ByteArray) :
    (∀ k, k < findP ps key → Op.bytesLess (keyOf ps k).toList key.toList = true) ∧ (∀ k, findP ps key ≤ k → k < ps.length → Op.bytesLess (keyOf ps k).toList key.toList = false) := by
  obtain ⟨h1, h2⟩ := bs_spec (ltP ps key) ps.length (ltP_mono h key)
  refine ⟨fun k hk => ltP_iff.1 (h1 k hk), fun k hk1 hk2 => ?_⟩
  have := h2 k hk1 hk2
  cases hb : Op.bytesLess (keyOf ps k).toList key.toList
  · rfl
  · rw [ltP_iff.2 hb] at this; cases this
theorem hasP_iff {ps : List Pr} {key : ByteArray} : hasP ps key = true ↔ findP ps key < ps.length ∧ (keyOf ps (findP ps key)).toList = key.toList := by
  simp only [hasP, Bool.and_eq_true, decide_eq_true_eq, beq_iff_eq, cmpS_zero]
theorem hasP_at {ps : List Pr} (h : risesP ps = true) {key : ByteArray} {k : Nat} (hk : k < ps.length) (he : (keyOf ps k).toList = key.toList) : findP ps key = k ∧ hasP ps key = true := by
  obtain ⟨h1, h2⟩ := findP_spec h key
  have e : findP ps key = k := by
    rcases Nat.lt_trichotomy (findP ps key) k with hlt | heq | hgt
    · have a := h2 (findP ps key) (Nat.le_refl _) (by omega)
      have b := risesP_lt h k _ hlt hk
      rw [he, a] at b; cases b
    · exact heq
    · have := h1 k hgt
      rw [he, bl_irrefl] at this; cases this
  refine ⟨e, hasP_iff.2 ?_⟩
  rw [e]; exact ⟨hk, he⟩
theorem place_has {ps : List Pr} (h : risesP ps = true) {key : ByteArray} (hh : hasP ps key = true) : placeI ps key = findP ps key := by
  obtain ⟨h1, h2⟩ := hasP_iff.1 hh
  refine firstI_hit h1 (fun j hj => ?_) (by simpa using h2)
  cases he : ((keyOf ps j).toList == key.toList)
  · rfl
  · have := (hasP_at h (k := j) (by omega) (by simpa using he)).1
    omega
theorem place_not {ps : List Pr} (h : risesP ps = true) {key : ByteArray} (hh : hasP ps key = false) : placeI ps key = -1 := by
  refine firstI_none fun j hj => ?_
  cases he : ((keyOf ps j).toList == key.toList)
  · rfl
  · rw [(hasP_at h hj (by simpa using he)).2] at hh; cases hh

/-! ### answers -/
theorem risesR_lt {rs : List Rp} (h : risesR rs = true) : ∀ j i, i < j → j < rs.length → (repOf rs i).client < (repOf rs j).client := by
  have h' : ∀ i, i < rs.length → dipR rs i = false := of_decide_eq_true h
  have step : ∀ i, i + 1 < rs.length → (repOf rs i).client < (repOf rs (i + 1)).client := fun i hi => by
    have := h' (i + 1) hi
    simp [dipR] at this
    omega
  intro j
  induction j with
  | zero => intro i hi; omega
  | succ j ih =>
    intro i hi hj
    by_cases hij : i = j
    · subst hij; exact step i hj
    · have := ih i (by omega) (by omega); have := step j hj; omega
theorem ltR_iff {rs : List Rp} {c : Int} {k : Nat} : ltR rs c k = true ↔ (repOf rs k).client < c := by
  rw [ltR, decide_eq_true_iff, cmpI_neg]
theorem findR_spec {rs : List Rp} (h : risesR rs = true) (c : Int) :
    (∀ k, k < findR rs c → (repOf rs k).client < c) ∧ (∀ k, findR rs c ≤ k → k < rs.length → c ≤ (repOf rs k).client) := by
  obtain ⟨h1, h2⟩ := bs_spec (ltR rs c) rs.length fun i j hij hj hl => by
    rcases Nat.lt_or_ge i j with h' | h'
    · rw [ltR_iff] at hl ⊢
      have := risesR_lt h j i h' hj; omega
    · have : i = j := by omega
      rw [this]; exact hl
  refine ⟨fun k hk => ltR_iff.1 (h1 k hk), fun k hk1 hk2 => ?_⟩
  have := h2 k hk1 hk2
  rcases Int.lt_or_le (repOf rs k).client c with h' | h'
  · rw [ltR_iff.2 h'] at this; cases this
  · exact h'
theorem hasR_iff {rs : List Rp} {c : Int} : hasR rs c = true ↔ findR rs c < rs.length ∧ (repOf rs (findR rs c)).client = c := by
  simp only [hasR, Bool.and_eq_true, decide_eq_true_eq, beq_iff_eq, cmpI_zero]
theorem hasR_at {rs : List Rp} (h : risesR rs = true) {c : Int} {k : Nat} (hk : k < rs.length) (he : (repOf rs k).client = c) : findR rs c = k ∧ hasR rs c = true := by
  obtain ⟨h1, h2⟩ := findR_spec h c
  have e : findR rs c = k := by
    rcases Nat.lt_trichotomy (findR rs c) k with hlt | heq | hgt
    · have a := h2 (findR rs c) (Nat.le_refl _) (by omega)
      have b := risesR_lt h k _ hlt hk
      omega
    · exact heq
    · have := h1 k hgt
      omega
  refine ⟨e, hasR_iff.2 ?_⟩
  rw [e]; exact ⟨hk, he⟩
theorem last_has {rs : List Rp} (h : risesR rs = true) {c : Int} (hh : hasR rs c = true) : lastI rs c = findR rs c := by
  obtain ⟨h1, h2⟩ := hasR_iff.1 hh
  refine firstI_hit h1 (fun j hj => ?_) (by simpa using h2)
  cases he : ((repOf rs j).client == c)
  · rfl
  · have := (hasR_at h (k := j) (by omega) (by simpa using he)).1
    omega
theorem last_not {rs : List Rp} (h : risesR rs = true) {c : Int} (hh : hasR rs c = false) : lastI rs c = -1 := by
  refine firstI_none fun j hj => ?_
  cases he : ((repOf rs j).client == c)
  · rfl
  · rw [(hasR_at h hj (by simpa using he)).2] at hh; cases hh
theorem textsEq_refl (a : List ByteArray) : textsEq a a = true := textsEq_all rfl fun k _ => by simp [textAt]
theorem sameR_refl (r : Rp) : sameR r r = true := by simp [sameR, textsEq_refl]
theorem sameC_refl (ep : Int) (ms : List Mb) : sameC ep ms ep ms = true := sameC_all rfl rfl fun _ _ => mbEq_iff.2 rfl
theorem prEq_refl (k v : ByteArray) : prEq k v k v = true := by simp [prEq]
theorem sameS_refl (s : St) : sameS s s = true := by
  simp only [sameS, decide_true, sameC_refl, Bool.true_and, Bool.and_eq_true]
  exact ⟨decide_eq_true fun k _ => prEq_refl _ _, decide_eq_true fun k _ => sameR_refl _⟩
end Go.Proofs.YtchnnplcpidkiaaDoor
