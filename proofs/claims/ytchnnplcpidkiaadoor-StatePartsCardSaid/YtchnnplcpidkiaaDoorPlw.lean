/-
  The plain law of a registry's rows: what a put, a delete, an answer leave, told by what is in the row.
-/
import Derived.Test.YtchnnplcpidkiaaDoorSrt
import Derived.Test.YtchnnplcpidkiaaDoorBnd
namespace Go.Proofs.YtchnnplcpidkiaaDoor
open Go.RowKit

theorem ba_ext {a b : ByteArray} (h : a.toList = b.toList) : a = b := by
  rw [ByteArray.toList_eq, ByteArray.toList_eq] at h
  obtain ⟨⟨x⟩⟩ := a
  obtain ⟨⟨y⟩⟩ := b
  have : x = y := h
  rw [this]

def ltK (a b : ByteArray) : Prop := Op.bytesLess a.toList b.toList = true
theorem ltK_irrefl {a : ByteArray} : ¬ ltK a a := fun h => by rw [ltK, bl_irrefl] at h; cases h
theorem ltK_trans {a b c : ByteArray} (h1 : ltK a b) (h2 : ltK b c) : ltK a c := bl_trans _ _ _ h1 h2
theorem ltK_ne {a b : ByteArray} (h : ltK a b) : a ≠ b := fun e => by subst e; exact ltK_irrefl h
def PW (ps : List Pr) : Prop := ps.Pairwise fun a b => ltK a.key b.key
theorem keyOf_get {ps : List Pr} {k : Nat} (hk : k < ps.length) : keyOf ps k = ps[k].key := by simp [keyOf, List.getD_eq_getElem?_getD, hk]
theorem valOf_get {ps : List Pr} {k : Nat} (hk : k < ps.length) : valOf ps k = ps[k].val := by simp [valOf, List.getD_eq_getElem?_getD, hk]
theorem risesP_pw {ps : List Pr} : risesP ps = true ↔ PW ps := by
  constructor
  · intro h
    refine List.pairwise_iff_getElem.2 fun i j hi hj hij => ?_
    have := risesP_lt h j i hij hj
    rw [keyOf_get hi, keyOf_get hj] at this
    exact this
  · intro h
    refine decide_eq_true fun i hi => ?_
    rw [dipP]
    by_cases h0 : 0 < i
    · have h1 : i - 1 < ps.length := by omega
      have : ltK ps[i - 1].key ps[i].key := List.pairwise_iff_getElem.1 h (i - 1) i h1 hi (by omega)
      rw [keyOf_get h1, keyOf_get hi]
      rw [ltK] at this
      rw [this]; simp
    · simp [h0]

theorem pr_eta {p : Pr} {key : ByteArray} (h : p.key = key) : (⟨key, p.val⟩ : Pr) = p := by cases p; cases h; rfl
/-- A key has a value. -/
theorem has_iff {ps : List Pr} (h : risesP ps = true) {key : ByteArray} : hasP ps key = true ↔ ∃ v, (⟨key, v⟩ : Pr) ∈ ps := by
  constructor
  · intro hh
    obtain ⟨h1, h2⟩ := hasP_iff.1 hh
    have e := ba_ext h2
    rw [keyOf_get h1] at e
    exact ⟨ps[findP ps key].val, by rw [pr_eta e]; exact List.getElem_mem h1⟩
  · rintro ⟨v, hv⟩
    obtain ⟨k, hk, e⟩ := List.getElem_of_mem hv
    refine (hasP_at h hk ?_).2
    rw [keyOf_get hk, e]
theorem get_of {ps : List Pr} (h : risesP ps = true) {key v : ByteArray} (hv : (⟨key, v⟩ : Pr) ∈ ps) : getV ps key = v ∧ valOf ps (findP ps key) = v := by
  obtain ⟨k, hk, e⟩ := List.getElem_of_mem hv
  obtain ⟨h1, h2⟩ := hasP_at h hk (key := key) (by rw [keyOf_get hk, e])
  have : valOf ps (findP ps key) = v := by rw [h1, valOf_get hk, e]
  exact ⟨by rw [getV, if_pos h2, this], this⟩
theorem has_val {ps : List Pr} {key : ByteArray} (hh : hasP ps key = true) : (⟨key, valOf ps (findP ps key)⟩ : Pr) ∈ ps := by
  obtain ⟨h1, h2⟩ := hasP_iff.1 hh
  have e := ba_ext h2
  rw [keyOf_get h1] at e
  rw [valOf_get h1, pr_eta e]
  exact List.getElem_mem h1
theorem look_congr {ps ps' : List Pr} (h : risesP ps = true) (h' : risesP ps' = true) {key : ByteArray} (hm : ∀ v, (⟨key, v⟩ : Pr) ∈ ps ↔ (⟨key, v⟩ : Pr) ∈ ps') :
    hasP ps key = hasP ps' key ∧ getV ps key = getV ps' key := by
  cases hp : hasP ps key
  · have hp' : hasP ps' key = false := by
      cases hq : hasP ps' key
      · rfl
      · obtain ⟨v, hv⟩ := (has_iff h').1 hq
        rw [(has_iff h).2 ⟨v, (hm v).2 hv⟩] at hp; cases hp
    exact ⟨hp'.symm, by simp [getV, hp, hp']⟩
  · obtain ⟨v, hv⟩ := (has_iff h).1 hp
    have hv' := (hm v).1 hv
    exact ⟨((has_iff h').2 ⟨v, hv'⟩).symm, by rw [(get_of h hv).1, (get_of h' hv').1]⟩

/-! ### put, delete -/
theorem split_at {α : Type} {l : List α} {i : Nat} (hi : i < l.length) : l = l.take i ++ l[i] :: l.drop (i + 1) := by simp
theorem set_split {α : Type} {l : List α} {i : Nat} (hi : i < l.length) (x : α) : l.set i x = l.take i ++ x :: l.drop (i + 1) := by
  rw [List.set_eq_take_append_cons_drop, if_pos hi]
theorem pw_split {ps : List Pr} (h : risesP ps = true) {i : Nat} (hi : i < ps.length) :
    PW (ps.take i) ∧ PW (ps.drop (i + 1)) ∧ (∀ a ∈ ps.take i, ltK a.key ps[i].key) ∧ (∀ b ∈ ps.drop (i + 1), ltK ps[i].key b.key) := by
  have hp := risesP_pw.1 h
  rw [PW, split_at hi, List.pairwise_append, List.pairwise_cons] at hp
  obtain ⟨h1, ⟨h2, h3⟩, h4⟩ := hp
  exact ⟨h1, h3, fun a ha => h4 a ha _ List.mem_cons_self, h2⟩
theorem pw_join {xs ys : List Pr} {x : Pr} (h1 : PW xs) (h2 : PW ys) (h3 : ∀ a ∈ xs, ltK a.key x.key) (h4 : ∀ b ∈ ys, ltK x.key b.key) : PW (xs ++ x :: ys) := by
  rw [PW, List.pairwise_append, List.pairwise_cons]
  exact ⟨h1, ⟨h4, h2⟩, fun a ha b hb => by
    rcases List.mem_cons.1 hb with rfl | hb
    · exact h3 a ha
    · exact ltK_trans (h3 a ha) (h4 b hb)⟩

theorem key_at {ps : List Pr} {key : ByteArray} (hh : hasP ps key = true) : ∃ hi : findP ps key < ps.length, ps[findP ps key].key = key := by
  obtain ⟨h1, h2⟩ := hasP_iff.1 hh
  exact ⟨h1, by have := ba_ext h2; rw [keyOf_get h1] at this; exact this⟩
theorem setP_law {ps : List Pr} (h : risesP ps = true) {key val : ByteArray} (hh : hasP ps key = true) :
    risesP (setP ps key val) = true ∧ ∀ p, p ∈ setP ps key val ↔ p = ⟨key, val⟩ ∨ (p ∈ ps ∧ p.key ≠ key) := by
  obtain ⟨hi, hk⟩ := key_at hh
  obtain ⟨h1, h2, h3, h4⟩ := pw_split h hi
  rw [hk] at h3 h4
  have e : setP ps key val = ps.take (findP ps key) ++ ⟨key, val⟩ :: ps.drop (findP ps key + 1) := by
    rw [setP, set_split hi, keyOf_get hi, hk]
  rw [e]
  refine ⟨risesP_pw.2 (pw_join h1 h2 h3 h4), fun p => ?_⟩
  rw [List.mem_append, List.mem_cons]
  constructor
  · rintro (hp | rfl | hp)
    · exact .inr ⟨List.mem_of_mem_take hp, ltK_ne (h3 p hp)⟩
    · exact .inl rfl
    · exact .inr ⟨List.mem_of_mem_drop hp, Ne.symm (ltK_ne (h4 p hp))⟩
  · rintro (rfl | ⟨hp, hne⟩)
    · exact .inr (.inl rfl)
    · rw [split_at hi, List.mem_append, List.mem_cons] at hp
      rcases hp with hp | rfl | hp
      · exact .inl hp
      · exact absurd hk hne
      · exact .inr (.inr hp)
theorem delP_law {ps : List Pr} (h : risesP ps = true) {key : ByteArray} (hh : hasP ps key = true) :
    risesP (delP ps key) = true ∧ ∀ p, p ∈ delP ps key ↔ (p ∈ ps ∧ p.key ≠ key) := by
  obtain ⟨hi, hk⟩ := key_at hh
  obtain ⟨h1, h2, h3, h4⟩ := pw_split h hi
  rw [hk] at h3 h4
  refine ⟨risesP_pw.2 ?_, fun p => ?_⟩
  · rw [PW, delP, List.pairwise_append]
    exact ⟨h1, h2, fun a ha b hb => ltK_trans (h3 a ha) (h4 b hb)⟩
  · rw [delP, List.mem_append]
    constructor
    · rintro (hp | hp)
      · exact ⟨List.mem_of_mem_take hp, ltK_ne (h3 p hp)⟩
      · exact ⟨List.mem_of_mem_drop hp, Ne.symm (ltK_ne (h4 p hp))⟩
    · rintro ⟨hp, hne⟩
      rw [split_at hi, List.mem_append, List.mem_cons] at hp
      rcases hp with hp | rfl | hp
      · exact .inl hp
      · exact absurd hk hne
      · exact .inr hp
theorem insP_law {ps : List Pr} (h : risesP ps = true) {key val : ByteArray} (hh : hasP ps key = false) :
    risesP (insP ps key val) = true ∧ ∀ p, p ∈ insP ps key val ↔ p = ⟨key, val⟩ ∨ (p ∈ ps ∧ p.key ≠ key) := by
  obtain ⟨h1, h2⟩ := findP_spec h key
  have hp := risesP_pw.1 h
  have hne : ∀ p ∈ ps, p.key ≠ key := fun p hp e => by
    rw [(has_iff h).2 ⟨p.val, by rw [← e]; exact hp⟩] at hh; cases hh
  have ht : ∀ a ∈ ps.take (findP ps key), ltK a.key key := fun a ha => by
    obtain ⟨k, hk, rfl⟩ := List.getElem_of_mem ha
    rw [List.length_take] at hk
    rw [List.getElem_take]
    have := h1 k (by omega)
    rw [keyOf_get (by omega)] at this
    exact this
  have hd : ∀ b ∈ ps.drop (findP ps key), ltK key b.key := fun b hb => by
    have hbm := List.mem_of_mem_drop hb
    obtain ⟨k, hk, rfl⟩ := List.getElem_of_mem hb
    rw [List.length_drop] at hk
    rw [List.getElem_drop] at hbm ⊢
    have := h2 (findP ps key + k) (by omega) (by omega)
    rw [keyOf_get (by omega)] at this
    rw [ltK]
    cases hq : Op.bytesLess key.toList ps[findP ps key + k].key.toList
    · exact absurd (ba_ext (bl_tri _ _ this hq)) (hne _ hbm)
    · rfl
  have hts := hp
  rw [PW, ← List.take_append_drop (findP ps key) ps, List.pairwise_append] at hts
  refine ⟨risesP_pw.2 (pw_join hts.1 hts.2.1 ht hd), fun p => ?_⟩
  rw [insP, List.mem_append, List.mem_cons]
  constructor
  · rintro (hp | rfl | hp)
    · exact .inr ⟨List.mem_of_mem_take hp, hne p (List.mem_of_mem_take hp)⟩
    · exact .inl rfl
    · exact .inr ⟨List.mem_of_mem_drop hp, hne p (List.mem_of_mem_drop hp)⟩
  · rintro (rfl | ⟨hp, _⟩)
    · exact .inr (.inl rfl)
    · rw [← List.take_append_drop (findP ps key) ps, List.mem_append] at hp
      rcases hp with hp | hp
      · exact .inl hp
      · exact .inr (.inr hp)

/-! ### what a request does to the pairs -/
/-- none: nothing; some none: the key goes; some (some v): the key has v. -/
def effP (ps : List Pr) (q : Req) : Option (Option ByteArray) :=
  if q.kind = 2 then (if hasP ps q.key then some (some q.val) else if 256 ≤ ps.length then none else some (some q.val))
  else if q.kind = 3 then (if hasP ps q.key then some none else none)
  else if q.kind = 4 then (if hasP ps q.key && sameB (valOf ps (findP ps q.key)) q.old then some (some q.val) else none)
  else none
def InEff (ps : List Pr) (key : ByteArray) (e : Option (Option ByteArray)) (p : Pr) : Prop :=
  match e with
  | none => p ∈ ps
  | some none => p ∈ ps ∧ p.key ≠ key
  | some (some v) => p = ⟨key, v⟩ ∨ (p ∈ ps ∧ p.key ≠ key)
theorem doesS_pairs {s : St} (h : risesP s.pairs = true) (q : Req) : risesP (doesS s q).pairs = true ∧ ∀ p, p ∈ (doesS s q).pairs ↔ InEff s.pairs q.key (effP s.pairs q) p := by
  unfold doesS effP
  by_cases h2 : q.kind = 2
  · rw [if_pos h2, if_pos h2]
    show risesP (putP s.pairs q.key q.val) = true ∧ ∀ p, p ∈ putP s.pairs q.key q.val ↔ _
    rw [putP]
    cases hh : hasP s.pairs q.key
    · simp only [Bool.false_eq_true, if_false]
      by_cases hl : 256 ≤ s.pairs.length
      · rw [if_pos hl, if_pos hl]; exact ⟨h, fun p => Iff.rfl⟩
      · rw [if_neg hl, if_neg hl]; exact insP_law h hh
    · rw [if_pos rfl, if_pos rfl]; exact setP_law h hh
  rw [if_neg h2, if_neg h2]
  by_cases h3 : q.kind = 3
  · rw [if_pos h3, if_pos h3]
    cases hh : hasP s.pairs q.key
    · simp only [Bool.false_eq_true, if_false]; exact ⟨h, fun p => Iff.rfl⟩
    · rw [if_pos rfl, if_pos rfl]; exact delP_law h hh
  rw [if_neg h3, if_neg h3]
  by_cases h4 : q.kind = 4
  · rw [if_pos h4, if_pos h4]
    cases hh : hasP s.pairs q.key && sameB (valOf s.pairs (findP s.pairs q.key)) q.old
    · simp only [Bool.false_eq_true, if_false]; exact ⟨h, fun p => Iff.rfl⟩
    · rw [if_pos rfl, if_pos rfl]
      rw [Bool.and_eq_true] at hh
      exact setP_law h hh.1
  rw [if_neg h4, if_neg h4]
  have : (if q.kind = 7 then (if cfgCode s.epoch s.mbs q.chg = 0 then { s with epoch := s.epoch + 1, mbs := cfgMs s.mbs q.chg } else s) else s).pairs = s.pairs := by
    (repeat' split) <;> rfl
  rw [this]
  exact ⟨h, fun p => Iff.rfl⟩

/-! ### answers -/
def PWR (rs : List Rp) : Prop := rs.Pairwise fun a b => a.client < b.client
theorem repOf_get {rs : List Rp} {k : Nat} (hk : k < rs.length) : repOf rs k = rs[k] := by simp [repOf, List.getD_eq_getElem?_getD, hk]
theorem risesR_pw {rs : List Rp} : risesR rs = true ↔ PWR rs := by
  constructor
  · intro h
    refine List.pairwise_iff_getElem.2 fun i j hi hj hij => ?_
    have := risesR_lt h j i hij hj
    rw [repOf_get hi, repOf_get hj] at this
    exact this
  · intro h
    refine decide_eq_true fun i hi => ?_
    rw [dipR]
    by_cases h0 : 0 < i
    · have h1 : i - 1 < rs.length := by omega
      have : rs[i - 1].client < rs[i].client := List.pairwise_iff_getElem.1 h (i - 1) i h1 hi (by omega)
      rw [repOf_get h1, repOf_get hi]
      simp; omega
    · simp [h0]
theorem hasR_at' {rs : List Rp} (h : risesR rs = true) {r : Rp} (hr : r ∈ rs) : hasR rs r.client = true ∧ repOf rs (findR rs r.client) = r := by
  obtain ⟨k, hk, rfl⟩ := List.getElem_of_mem hr
  obtain ⟨h1, h2⟩ := hasR_at h hk (c := rs[k].client) (by rw [repOf_get hk])
  exact ⟨h2, by rw [h1, repOf_get hk]⟩
theorem hasR_mem {rs : List Rp} {c : Int} (hh : hasR rs c = true) : repOf rs (findR rs c) ∈ rs ∧ (repOf rs (findR rs c)).client = c := by
  obtain ⟨h1, h2⟩ := hasR_iff.1 hh
  exact ⟨repOf_mem h1, h2⟩
theorem putR_law {rs : List Rp} (h : risesR rs = true) (x : Rp) : risesR (putR rs x) = true ∧ ∀ r, r ∈ putR rs x ↔ r = x ∨ (r ∈ rs ∧ r.client ≠ x.client) := by
  have hp := risesR_pw.1 h
  have join {xs ys : List Rp} (h1 : PWR xs) (h2 : PWR ys) (h3 : ∀ a ∈ xs, a.client < x.client) (h4 : ∀ b ∈ ys, x.client < b.client) : PWR (xs ++ x :: ys) := by
    rw [PWR, List.pairwise_append, List.pairwise_cons]
    exact ⟨h1, ⟨h4, h2⟩, fun a ha b hb => by
      rcases List.mem_cons.1 hb with rfl | hb
      · exact h3 a ha
      · have := h3 a ha; have := h4 b hb; omega⟩
  cases hh : hasR rs x.client
  · obtain ⟨h1, h2⟩ := findR_spec h x.client
    have hne : ∀ r ∈ rs, r.client ≠ x.client := fun r hr e => by
      have := (hasR_at' h hr).1
      rw [e, hh] at this; cases this
    have ht : ∀ a ∈ rs.take (findR rs x.client), a.client < x.client := fun a ha => by
      obtain ⟨k, hk, rfl⟩ := List.getElem_of_mem ha
      rw [List.length_take] at hk
      rw [List.getElem_take]
      have := h1 k (by omega)
      rw [repOf_get (by omega)] at this
      exact this
    have hd : ∀ b ∈ rs.drop (findR rs x.client), x.client < b.client := fun b hb => by
      have hbm := List.mem_of_mem_drop hb
      obtain ⟨k, hk, rfl⟩ := List.getElem_of_mem hb
      rw [List.length_drop] at hk
      rw [List.getElem_drop] at hbm ⊢
      have := h2 (findR rs x.client + k) (by omega) (by omega)
      rw [repOf_get (by omega)] at this
      have := hne _ hbm
      omega
    have hts := hp
    rw [PWR, ← List.take_append_drop (findR rs x.client) rs, List.pairwise_append] at hts
    have e : putR rs x = rs.take (findR rs x.client) ++ x :: rs.drop (findR rs x.client) := by rw [putR, if_neg (by rw [hh]; decide), insR]
    rw [e]
    refine ⟨risesR_pw.2 (join hts.1 hts.2.1 ht hd), fun p => ?_⟩
    rw [List.mem_append, List.mem_cons]
    constructor
    · rintro (hp | rfl | hp)
      · exact .inr ⟨List.mem_of_mem_take hp, hne p (List.mem_of_mem_take hp)⟩
      · exact .inl rfl
      · exact .inr ⟨List.mem_of_mem_drop hp, hne p (List.mem_of_mem_drop hp)⟩
    · rintro (rfl | ⟨hp, _⟩)
      · exact .inr (.inl rfl)
      · rw [← List.take_append_drop (findR rs x.client) rs, List.mem_append] at hp
        rcases hp with hp | hp
        · exact .inl hp
        · exact .inr (.inr hp)
  · obtain ⟨hi, hk⟩ := hasR_iff.1 hh
    rw [repOf_get hi] at hk
    have hp' := hp
    rw [PWR, split_at hi, List.pairwise_append, List.pairwise_cons] at hp'
    obtain ⟨h1, ⟨h2, h3⟩, h4⟩ := hp'
    have h4' : ∀ a ∈ rs.take (findR rs x.client), a.client < x.client := fun a ha => by have := h4 a ha _ List.mem_cons_self; rw [hk] at this; exact this
    rw [hk] at h2
    have e : putR rs x = rs.take (findR rs x.client) ++ x :: rs.drop (findR rs x.client + 1) := by rw [putR, if_pos hh, set_split hi]
    rw [e]
    refine ⟨risesR_pw.2 (join h1 h3 h4' h2), fun p => ?_⟩
    rw [List.mem_append, List.mem_cons]
    constructor
    · rintro (hp | rfl | hp)
      · exact .inr ⟨List.mem_of_mem_take hp, by have := h4' p hp; omega⟩
      · exact .inl rfl
      · exact .inr ⟨List.mem_of_mem_drop hp, by have := h2 p hp; omega⟩
    · rintro (rfl | ⟨hp, hne⟩)
      · exact .inr (.inl rfl)
      · rw [split_at hi, List.mem_append, List.mem_cons] at hp
        rcases hp with hp | rfl | hp
        · exact .inl hp
        · exact absurd hk hne
        · exact .inr (.inr hp)
theorem rep_congr {rs rs' : List Rp} (h : risesR rs = true) (h' : risesR rs' = true) {c : Int} (hm : ∀ r : Rp, r.client = c → (r ∈ rs ↔ r ∈ rs')) :
    hasR rs c = hasR rs' c ∧ lastR rs c = lastR rs' c := by
  cases hp : hasR rs c
  · have hp' : hasR rs' c = false := by
      cases hq : hasR rs' c
      · rfl
      · obtain ⟨h1, h2⟩ := hasR_mem hq
        have := (hasR_at' h ((hm _ h2).2 h1)).1
        rw [h2, hp] at this; cases this
    exact ⟨hp'.symm, by rw [lastR, lastR, hp, hp']; rfl⟩
  · obtain ⟨h1, h2⟩ := hasR_mem hp
    have h3 := (hm _ h2).1 h1
    obtain ⟨h4, h5⟩ := hasR_at' h' h3
    rw [h2] at h4 h5
    exact ⟨h4.symm, by rw [lastR, lastR, hp, h4, if_pos rfl, if_pos rfl, h5]⟩
theorem lastR_of {rs : List Rp} (h : risesR rs = true) {r : Rp} (hr : r ∈ rs) : hasR rs r.client = true ∧ lastR rs r.client = r := by
  obtain ⟨h1, h2⟩ := hasR_at' h hr
  exact ⟨h1, by rw [lastR, if_pos h1, h2]⟩

/-! ### a request -/
/-- Is it executed? -/
def act (s : St) (q : Req) : Bool := goodQ q && !oldQ s q
theorem act_iff {s : St} {q : Req} : act s q = true ↔ goodQ q = true ∧ oldQ s q = false := by simp [act]
theorem apply_idle {s : St} {q : Req} (h : act s q = false) : applyS s q = s := by
  cases hg : goodQ q
  · rw [applyS, if_pos hg]
  · cases ho : oldQ s q
    · rw [act, hg, ho] at h; cases h
    · exact applyS_old hg ho
theorem apply_act {s : St} {q : Req} (h : act s q = true) : applyS s q = { doesS s q with reps := putR s.reps (newR s q) } ∧ applyR s q = newR s q := by
  obtain ⟨hg, ho⟩ := act_iff.1 h
  exact ⟨applyS_new hg ho, applyR_new hg ho⟩
theorem rises_iff {s : St} : risesS s = true ↔ risesP s.pairs = true ∧ risesR s.reps = true := by simp [risesS]
theorem apply_rises {s : St} (h : risesS s = true) (q : Req) : risesS (applyS s q) = true := by
  cases ha : act s q
  · rw [apply_idle ha]; exact h
  · obtain ⟨h1, h2⟩ := rises_iff.1 h
    rw [(apply_act ha).1]
    exact rises_iff.2 ⟨(doesS_pairs h1 q).1, (putR_law h2 _).1⟩
theorem goodQ_num {q : Req} (h : goodQ q = true) : 1 ≤ q.num := by
  simp only [goodQ, Bool.and_eq_true, decide_eq_true_eq] at h
  exact h.1.2.2.1
/-- 'It is executed', as the law says it. -/
theorem act_fresh {s : St} {q : Req} : act s q = (goodQ q && decide ((lastR s.reps q.client).num < q.num)) := by
  cases hg : goodQ q
  · rw [act, hg]; rfl
  · rw [act, hg, Bool.true_and, Bool.true_and, oldQ, lastR]
    cases hh : hasR s.reps q.client
    · have := goodQ_num hg
      simp; omega
    · by_cases hn : q.num ≤ (repOf s.reps (findR s.reps q.client)).num
      · have : ¬ (repOf s.reps (findR s.reps q.client)).num < q.num := by omega
        simp [hn, this]
      · have : (repOf s.reps (findR s.reps q.client)).num < q.num := by omega
        simp [hn, this]
end Go.Proofs.YtchnnplcpidkiaaDoor
