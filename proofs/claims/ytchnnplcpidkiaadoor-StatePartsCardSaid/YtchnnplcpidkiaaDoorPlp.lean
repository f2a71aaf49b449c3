/-
  The plain law of StateParts: two requests of two clients to two keys may change places.
-/
import Derived.Test.YtchnnplcpidkiaaDoorPlw
namespace Go.Proofs.YtchnnplcpidkiaaDoor
open Go.RowKit

/-- Two rising lists with the same members are equal. -/
theorem pw_ext {α : Type} {r : α → α → Prop} (irr : ∀ a, ¬ r a a) (tr : ∀ a b c, r a b → r b c → r a c) {l : List α} : ∀ {l' : List α}, l.Pairwise r → l'.Pairwise r → (∀ x, x ∈ l ↔ x ∈ l') → l = l' := by
  induction l with
  | nil =>
    intro l' _ _ h
    cases l' with
    | nil => rfl
    | cons y ys => exact absurd ((h y).2 List.mem_cons_self) List.not_mem_nil
  | cons x xs ih =>
    intro l' h1 h2 h
    cases l' with
    | nil => exact absurd ((h x).1 List.mem_cons_self) List.not_mem_nil
    | cons y ys =>
      obtain ⟨a1, a2⟩ := List.pairwise_cons.1 h1
      obtain ⟨b1, b2⟩ := List.pairwise_cons.1 h2
      have e : x = y := by
        rcases List.mem_cons.1 ((h x).1 List.mem_cons_self) with e | hx
        · exact e
        · rcases List.mem_cons.1 ((h y).2 List.mem_cons_self) with e | hy
          · exact e.symm
          · exact absurd (tr _ _ _ (a1 y hy) (b1 x hx)) (irr x)
      subst e
      rw [ih a2 b2 fun z => ⟨fun hz => ?_, fun hz => ?_⟩]
      · rcases List.mem_cons.1 ((h z).1 (List.mem_cons_of_mem x hz)) with e | hz'
        · subst e; exact absurd (a1 _ hz) (irr _)
        · exact hz'
      · rcases List.mem_cons.1 ((h z).2 (List.mem_cons_of_mem x hz)) with e | hz'
        · subst e; exact absurd (b1 _ hz) (irr _)
        · exact hz'

/-- What a request may look at: its key's value, and its client's last answer. -/
structure Alike (s s' : St) (q : Req) : Prop where
  has : hasP s.pairs q.key = hasP s'.pairs q.key
  get : getV s.pairs q.key = getV s'.pairs q.key
  hasr : hasR s.reps q.client = hasR s'.reps q.client
  last : lastR s.reps q.client = lastR s'.reps q.client
theorem get_val {ps : List Pr} {key : ByteArray} (h : hasP ps key = true) : valOf ps (findP ps key) = getV ps key := by rw [getV, if_pos h]
theorem Alike.act {s s' : St} {q : Req} (h : Alike s s' q) : act s q = act s' q := by rw [act_fresh, act_fresh, h.last]
theorem Alike.val {s s' : St} {q : Req} (h : Alike s s' q) (hh : hasP s.pairs q.key = true) : valOf s.pairs (findP s.pairs q.key) = valOf s'.pairs (findP s'.pairs q.key) := by
  rw [get_val hh, get_val (by rw [← h.has]; exact hh), h.get]
theorem Alike.code {s s' : St} {q : Req} (h : Alike s s' q) (hk : q.kind ≤ 4) (hl : s.pairs.length < 256) (hl' : s'.pairs.length < 256) : doesC s q = doesC s' q := by
  unfold doesC putC
  rw [if_neg (show ¬ q.kind = 5 by omega), if_neg (show ¬ q.kind = 6 by omega), if_neg (show ¬ q.kind = 7 by omega), if_neg (show ¬ q.kind = 5 by omega), if_neg (show ¬ q.kind = 6 by omega), if_neg (show ¬ q.kind = 7 by omega), if_neg (show ¬ 256 ≤ s.pairs.length by omega), if_neg (show ¬ 256 ≤ s'.pairs.length by omega)]
  cases hh : hasP s.pairs q.key
  · rw [← h.has, hh]; simp
  · rw [← h.has, hh, h.val hh]
theorem Alike.vals {s s' : St} {q : Req} (h : Alike s s' q) (hk : q.kind ≤ 4) : doesV s q = doesV s' q := by
  unfold doesV
  rw [if_neg (show ¬ q.kind = 5 by omega), if_neg (show ¬ q.kind = 5 by omega), if_neg (show ¬ q.kind = 6 by omega), if_neg (show ¬ q.kind = 6 by omega)]
  cases hh : hasP s.pairs q.key
  · rw [← h.has, hh]; simp
  · rw [← h.has, hh, h.val hh]
theorem Alike.eff {s s' : St} {q : Req} (h : Alike s s' q) (hl : s.pairs.length < 256) (hl' : s'.pairs.length < 256) : effP s.pairs q = effP s'.pairs q := by
  unfold effP
  rw [if_neg (show ¬ 256 ≤ s.pairs.length by omega), if_neg (show ¬ 256 ≤ s'.pairs.length by omega)]
  cases hh : hasP s.pairs q.key
  · rw [← h.has, hh]; simp
  · rw [← h.has, hh, h.val hh]
theorem Alike.new {s s' : St} {q : Req} (h : Alike s s' q) (hk : q.kind ≤ 4) (hl : s.pairs.length < 256) (hl' : s'.pairs.length < 256) : newR s q = newR s' q := by
  rw [newR, newR, h.code hk hl hl', h.vals hk]
theorem repOf_last {rs : List Rp} {c : Int} (h : hasR rs c = true) : repOf rs (findR rs c) = lastR rs c := by rw [lastR, if_pos h]
theorem Alike.reply {s s' : St} {q : Req} (h : Alike s s' q) (hk : q.kind ≤ 4) (hl : s.pairs.length < 256) (hl' : s'.pairs.length < 256) : applyR s q = applyR s' q := by
  have ho : oldQ s q = oldQ s' q := by
    unfold oldQ
    cases hh : hasR s.reps q.client
    · rw [← h.hasr, hh]; simp
    · rw [← h.hasr, hh, repOf_last hh, repOf_last (by rw [← h.hasr]; exact hh), h.last]
  unfold applyR
  rw [← ho, h.new hk hl hl']
  cases hg : goodQ q
  · rfl
  · cases hold : oldQ s q
    · rfl
    · have hh : hasR s.reps q.client = true := by rw [oldQ, Bool.and_eq_true] at hold; exact hold.1
      rw [repOf_last hh, repOf_last (by rw [← h.hasr]; exact hh), h.last]

/-! ### a request leaves the other's things alone -/
def effA (s : St) (q : Req) : Option (Option ByteArray) := if act s q then effP s.pairs q else none
theorem apply_pairs {s : St} (h : risesS s = true) (q : Req) (p : Pr) : p ∈ (applyS s q).pairs ↔ InEff s.pairs q.key (effA s q) p := by
  obtain ⟨h1, _⟩ := rises_iff.1 h
  cases ha : act s q
  · rw [apply_idle ha, effA, ha]; exact Iff.rfl
  · rw [(apply_act ha).1, effA, ha, if_pos rfl]; exact (doesS_pairs h1 q).2 p
def InRep (s : St) (q : Req) (r : Rp) : Prop := if act s q = true then r = newR s q ∨ (r ∈ s.reps ∧ r.client ≠ q.client) else r ∈ s.reps
theorem apply_reps {s : St} (h : risesS s = true) (q : Req) (r : Rp) : r ∈ (applyS s q).reps ↔ InRep s q r := by
  obtain ⟨_, h2⟩ := rises_iff.1 h
  cases ha : act s q
  · rw [apply_idle ha, InRep, ha]; simp
  · rw [(apply_act ha).1, InRep, ha, if_pos rfl]; exact (putR_law h2 (newR s q)).2 r
theorem apply_rest {s : St} {q : Req} (hk : q.kind ≤ 4) : (applyS s q).epoch = s.epoch ∧ (applyS s q).mbs = s.mbs := by
  cases ha : act s q
  · rw [apply_idle ha]; exact ⟨rfl, rfl⟩
  · rw [(apply_act ha).1]
    show (doesS s q).epoch = s.epoch ∧ (doesS s q).mbs = s.mbs
    unfold doesS
    rw [if_neg (show ¬ q.kind = 7 by omega)]
    (repeat' split) <;> exact ⟨rfl, rfl⟩
theorem apply_far {s : St} (h : risesS s = true) {a b : Req} (hc : a.client ≠ b.client) (hk : a.key ≠ b.key) : Alike (applyS s a) s b := by
  have hr := apply_rises h a
  obtain ⟨h1, h2⟩ := rises_iff.1 h
  obtain ⟨g1, g2⟩ := rises_iff.1 hr
  have l1 := look_congr g1 h1 (key := b.key) fun v => by
    rw [apply_pairs h a]
    cases effA s a with
    | none => exact Iff.rfl
    | some o =>
      cases o with
      | none => exact ⟨fun hm => hm.1, fun hm => ⟨hm, fun e => hk (show b.key = a.key from e).symm⟩⟩
      | some u => exact ⟨fun hm => hm.elim (fun e => absurd (congrArg Pr.key e).symm hk) (fun e => e.1), fun hm => .inr ⟨hm, fun e => hk (show b.key = a.key from e).symm⟩⟩
  have l2 := rep_congr g2 h2 (c := b.client) fun r hr => by
    rw [apply_reps h a, InRep]
    split
    · exact ⟨fun hm => hm.elim (fun e => absurd (show a.client = b.client from by rw [← hr, e]; rfl) hc) (fun e => e.1), fun hm => .inr ⟨hm, fun e => hc (by rw [← e, hr])⟩⟩
    · exact Iff.rfl
  exact ⟨l1.1, l1.2, l2.1, l2.2⟩
theorem putP_len1 {ps : List Pr} {key val : ByteArray} : (putP ps key val).length ≤ ps.length + 1 := by
  unfold putP
  split
  · simp [setP]
  · split
    · omega
    · simp [insP]; omega
theorem apply_len {s : St} {q : Req} (hk : q.kind ≤ 4) : (applyS s q).pairs.length ≤ s.pairs.length + 1 := by
  cases ha : act s q
  · rw [apply_idle ha]; omega
  · rw [(apply_act ha).1]
    show (doesS s q).pairs.length ≤ _
    unfold doesS
    rw [if_neg (show ¬ q.kind = 7 by omega)]
    (repeat' split)
    · exact putP_len1
    · show (delP s.pairs q.key).length ≤ _
      simp [delP]; omega
    · omega
    · show (setP s.pairs q.key q.val).length ≤ _
      simp [setP]
    · omega
    · omega

/-! ### they change places -/
theorem in_eff_swap {ps ps1 ps2 : List Pr} {k1 k2 : ByteArray} (hk : k1 ≠ k2) {e1 e2 : Option (Option ByteArray)} (h1 : ∀ p, p ∈ ps1 ↔ InEff ps k1 e1 p) (h2 : ∀ p, p ∈ ps2 ↔ InEff ps k2 e2 p) (p : Pr) :
    InEff ps1 k2 e2 p ↔ InEff ps2 k1 e1 p := by
  rcases e1 with _ | _ | u <;> rcases e2 with _ | _ | v <;> simp only [InEff, h1, h2]
  · exact ⟨fun ⟨⟨a, b⟩, c⟩ => ⟨⟨a, c⟩, b⟩, fun ⟨⟨a, b⟩, c⟩ => ⟨⟨a, c⟩, b⟩⟩
  · constructor
    · rintro (rfl | ⟨⟨a, b⟩, c⟩)
      · exact ⟨.inl rfl, Ne.symm hk⟩
      · exact ⟨.inr ⟨a, c⟩, b⟩
    · rintro ⟨rfl | ⟨a, b⟩, c⟩
      · exact .inl rfl
      · exact .inr ⟨⟨a, c⟩, b⟩
  · constructor
    · rintro ⟨rfl | ⟨a, b⟩, c⟩
      · exact .inl rfl
      · exact .inr ⟨⟨a, c⟩, b⟩
    · rintro (rfl | ⟨⟨a, b⟩, c⟩)
      · exact ⟨.inl rfl, hk⟩
      · exact ⟨.inr ⟨a, c⟩, b⟩
  · constructor
    · rintro (rfl | ⟨rfl | ⟨a, b⟩, c⟩)
      · exact .inr ⟨.inl rfl, Ne.symm hk⟩
      · exact .inl rfl
      · exact .inr ⟨.inr ⟨a, c⟩, b⟩
    · rintro (rfl | ⟨rfl | ⟨a, b⟩, c⟩)
      · exact .inr ⟨.inl rfl, hk⟩
      · exact .inl rfl
      · exact .inr ⟨.inr ⟨a, c⟩, b⟩
theorem parts_swap {s : St} {a b : Req} (h : risesS s = true) (hc : a.client ≠ b.client) (hk : a.key ≠ b.key) (ka : a.kind ≤ 4) (kb : b.kind ≤ 4) (hl : s.pairs.length ≤ 250) :
    applyS (applyS s a) b = applyS (applyS s b) a ∧ applyR s a = applyR (applyS s b) a ∧ applyR s b = applyR (applyS s a) b := by
  have ra := apply_rises h a
  have rb := apply_rises h b
  have la := apply_len (s := s) ka
  have lb := apply_len (s := s) kb
  have A : Alike (applyS s a) s b := apply_far h hc hk
  have B : Alike (applyS s b) s a := apply_far h (Ne.symm hc) (Ne.symm hk)
  have eb : effA (applyS s a) b = effA s b := by rw [effA, effA, A.act, A.eff (by omega) (by omega)]
  have ea : effA (applyS s b) a = effA s a := by rw [effA, effA, B.act, B.eff (by omega) (by omega)]
  have nb := A.new kb (by omega) (by omega)
  have na := B.new ka (by omega) (by omega)
  refine ⟨?_, (B.reply ka (by omega) (by omega)).symm, (A.reply kb (by omega) (by omega)).symm⟩
  have hp : (applyS (applyS s a) b).pairs = (applyS (applyS s b) a).pairs :=
    pw_ext (r := fun (x y : Pr) => ltK x.key y.key) (fun _ => ltK_irrefl) (fun _ _ _ => ltK_trans) (risesP_pw.1 (rises_iff.1 (apply_rises ra b)).1) (risesP_pw.1 (rises_iff.1 (apply_rises rb a)).1) fun p => by
      rw [apply_pairs ra b, apply_pairs rb a, eb, ea]
      exact in_eff_swap hk (apply_pairs h a) (apply_pairs h b) p
  have hr : (applyS (applyS s a) b).reps = (applyS (applyS s b) a).reps :=
    pw_ext (r := fun (x y : Rp) => x.client < y.client) (fun _ => Int.lt_irrefl _) (fun _ _ _ => Int.lt_trans) (risesR_pw.1 (rises_iff.1 (apply_rises ra b)).2) (risesR_pw.1 (rises_iff.1 (apply_rises rb a)).2) fun r => by
      rw [apply_reps ra b, apply_reps rb a, InRep, InRep, A.act, B.act, nb, na, apply_reps h a, apply_reps h b, InRep, InRep]
      have ca : (newR s a).client = a.client := rfl
      have cb : (newR s b).client = b.client := rfl
      cases act s a <;> cases act s b <;> simp only [if_true, if_false, Bool.false_eq_true]
      constructor
      · rintro (rfl | ⟨rfl | ⟨x, y⟩, z⟩)
        · exact .inr ⟨.inl rfl, by rw [cb]; exact Ne.symm hc⟩
        · exact .inl rfl
        · exact .inr ⟨.inr ⟨x, z⟩, y⟩
      · rintro (rfl | ⟨rfl | ⟨x, y⟩, z⟩)
        · exact .inr ⟨.inl rfl, by rw [ca]; exact hc⟩
        · exact .inl rfl
        · exact .inr ⟨.inr ⟨x, z⟩, y⟩
  have e1 : (applyS (applyS s a) b).epoch = (applyS (applyS s b) a).epoch := by rw [(apply_rest kb).1, (apply_rest ka).1, (apply_rest ka).1, (apply_rest kb).1]
  have e2 : (applyS (applyS s a) b).mbs = (applyS (applyS s b) a).mbs := by rw [(apply_rest kb).2, (apply_rest ka).2, (apply_rest ka).2, (apply_rest kb).2]
  generalize applyS (applyS s a) b = x at *
  generalize applyS (applyS s b) a = y at *
  cases x
  cases y
  simp only at hp hr e1 e2
  rw [hp, hr, e1, e2]
end Go.Proofs.YtchnnplcpidkiaaDoor
