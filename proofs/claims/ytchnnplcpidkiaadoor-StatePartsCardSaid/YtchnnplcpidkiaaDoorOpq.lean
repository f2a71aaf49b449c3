/-
  What the reading of an argument gives: a request; a row of requests.
-/
import Derived.Test.YtchnnplcpidkiaaDoorOpn
namespace Go.Proofs.YtchnnplcpidkiaaDoor
open Go.RowKit Go.Deep Go.ChangeShapes Go.WideShapes

section
variable {H : Type} {enc : TypeId × Value → H} {w : World} {base : Nat} {spare : Nat → Bool} {held : Bool}

theorem from_drop {cs : List Value} {i : Nat} {a : Value} (h : cs[i]? = some a) : cs.drop i = a :: cs.drop (i + 1) := by
  obtain ⟨h1, h2⟩ := List.getElem?_eq_some_iff.1 h
  rw [List.drop_eq_getElem_cons h1, h2]
theorem from_whole {cs : List Value} {a : Value} (h : cs[0]? = some a) : cs = a :: cs.drop 1 := by
  have := from_drop h
  simpa using this

structure OQ (cs : List Value) (q : Req) : Prop where
  cells : cs = q.cells
  key : q.key.size ≤ 1152921504606846976
  val : q.val.size ≤ 1152921504606846976
  old : q.old.size ≤ 1152921504606846976
theorem open_chg {fuel : Nat} {cs : List Value} {x : DataW H × List MemPlace} (h : DataW.trod enc Tryd.prog w base spare held fuel 52 cs = some x) : ∃ (a b c : Int) (r : Vector Int 32) (g : Int), cs = .int .i64 a :: .int .i64 b :: .int .i64 c :: nodeC r g := by
  obtain ⟨y0, y1, y2, y3, n, _, hl, h0, h1, h2, h3⟩ := Joins.trod_struct4 Tryd.underlying52 h
  rw [show Tryd.prog.cellsOf 52 = 36 from by kernel_rfl] at hl
  obtain ⟨a, c0, _⟩ := fld_int h0
  obtain ⟨b, c1, _⟩ := fld_int h1
  obtain ⟨c, c2, _⟩ := fld_int h2
  obtain ⟨r, g, hk⟩ := open_key h3
  rw [cells50] at hk
  refine ⟨a, b, c, r, g, ?_⟩
  have e3 : cs.drop 3 = nodeC r g := by
    rw [← hk]
    exact (List.take_of_length_le (by simp only [List.length_drop]; omega)).symm
  rw [from_whole c0, from_drop c1, from_drop c2, e3]
theorem trod_struct5 {P : Program} {t : TypeId} {f0 f1 f2 f3 f4 : Field} {fuel : Nat} {cs : List Value} {x : DataW H × List MemPlace} (ht : P.underlying t = some (.struct #[f0, f1, f2, f3, f4])) (h : DataW.trod enc P w base spare held fuel t cs = some x) :
    ∃ y0 y1 y2 y3 y4 n, x.1 = .agg [y0.1, y1.1, y2.1, y3.1, y4.1] ∧ cs.length = P.cellsOf t ∧ DataW.trod enc P w base spare held n f0.type ((cs.drop f0.offset).take (P.cellsOf f0.type)) = some y0 ∧
      DataW.trod enc P w base spare held n f1.type ((cs.drop f1.offset).take (P.cellsOf f1.type)) = some y1 ∧ DataW.trod enc P w base spare held n f2.type ((cs.drop f2.offset).take (P.cellsOf f2.type)) = some y2 ∧
      DataW.trod enc P w base spare held n f3.type ((cs.drop f3.offset).take (P.cellsOf f3.type)) = some y3 ∧ DataW.trod enc P w base spare held n f4.type ((cs.drop f4.offset).take (P.cellsOf f4.type)) = some y4 := by
  obtain ⟨xs, n, _, rfl, hl, hlen, hf⟩ := DataW.trod_struct ht h
  match xs, hlen with
  | [y0, y1, y2, y3, y4], _ => exact ⟨y0, y1, y2, y3, y4, n, by simp, hl, by simpa using hf 0 f0 rfl, by simpa using hf 1 f1 rfl, by simpa using hf 2 f2 rfl, by simpa using hf 3 f3 rfl, by simpa using hf 4 f4 rfl⟩
theorem open_op {fuel : Nat} {cs : List Value} {x : DataW H × List MemPlace} (h : DataW.trod enc Tryd.prog w base spare held fuel 54 cs = some x) (hf : Fit 54 x.1) :
    ∃ (k : Int) (s1 s2 s3 : ByteArray) (a b c : Int) (r : Vector Int 32) (g : Int), cs = .int .i64 k :: .string s1 :: .string s2 :: .string s3 :: .int .i64 a :: .int .i64 b :: .int .i64 c :: nodeC r g ∧
      s1.size ≤ 1152921504606846976 ∧ s2.size ≤ 1152921504606846976 ∧ s3.size ≤ 1152921504606846976 := by
  obtain ⟨y0, y1, y2, y3, y4, n, hx, hl, h0, h1, h2, h3, h4⟩ := trod_struct5 Tryd.underlying54 h
  rw [hx] at hf
  rw [show Tryd.prog.cellsOf 54 = 40 from by kernel_rfl] at hl
  obtain ⟨k, c0, _⟩ := fld_int h0
  obtain ⟨s1, c1, z1⟩ := fld_str h1 (Fit.fld Tryd.underlying54 hf (i := 1) rfl rfl)
  obtain ⟨s2, c2, z2⟩ := fld_str h2 (Fit.fld Tryd.underlying54 hf (i := 2) rfl rfl)
  obtain ⟨s3, c3, z3⟩ := fld_str h3 (Fit.fld Tryd.underlying54 hf (i := 3) rfl rfl)
  obtain ⟨a, b, c, r, g, hk⟩ := open_chg h4
  refine ⟨k, s1, s2, s3, a, b, c, r, g, ?_, z1, z2, z3⟩
  have e4 : cs.drop 4 = .int .i64 a :: .int .i64 b :: .int .i64 c :: nodeC r g := by
    rw [← hk]
    exact (List.take_of_length_le (by rw [show Tryd.prog.cellsOf 52 = 36 from by kernel_rfl]; simp only [List.length_drop]; omega)).symm
  rw [from_whole c0, from_drop c1, from_drop c2, from_drop c3, e4]
theorem open_req {fuel : Nat} {cs : List Value} {x : DataW H × List MemPlace} (h : DataW.trod enc Tryd.prog w base spare held fuel 56 cs = some x) (hf : Fit 56 x.1) : ∃ q : Req, OQ cs q := by
  obtain ⟨y0, y1, y2, n, rfl, hl, h0, h1, h2⟩ := trod_struct3 Tryd.underlying56 h
  rw [show Tryd.prog.cellsOf 56 = 42 from by kernel_rfl] at hl
  obtain ⟨a, c0, _⟩ := fld_int h0
  obtain ⟨b, c1, _⟩ := fld_int h1
  obtain ⟨k, s1, s2, s3, c, d, e, r, g, hk, z1, z2, z3⟩ := open_op h2 (Fit.fld Tryd.underlying56 hf (i := 2) rfl rfl)
  have hk' : (cs.drop 2).take (Tryd.prog.cellsOf 54) = .int .i64 k :: .string s1 :: .string s2 :: .string s3 :: .int .i64 c :: .int .i64 d :: .int .i64 e :: nodeC r g := hk
  rw [show Tryd.prog.cellsOf 54 = 40 from by kernel_rfl, List.take_of_length_le (by rw [List.length_drop, hl]; decide)] at hk'
  refine ⟨⟨a, b, k, s1, s2, s3, c, d, e, r, g⟩, ?_, z1, z2, z3⟩
  rw [from_whole c0, from_drop c1, hk']
  rfl
/-- A row of requests. -/
theorem open_reqs {fuel : Nat} {cs : List Value} {x : DataW H × List MemPlace} (h : DataW.trod enc Tryd.prog w base spare held fuel 57 cs = some x) (hf : Fit 57 x.1) :
    ∃ (qs : List Req) (A : Option Addr) (c : Nat), cs = [.slice A qs.length c] ∧ Row w (fun _ => True) 42 A (qs.map Req.cells) ∧ ∀ k, k < qs.length →
      (qs.getD k ⟨0, 0, 0, ByteArray.empty, ByteArray.empty, ByteArray.empty, 0, 0, 0, Vector.replicate 32 0, 0⟩).key.size ≤ 1152921504606846976 ∧ (qs.getD k ⟨0, 0, 0, ByteArray.empty, ByteArray.empty, ByteArray.empty, 0, 0, 0, Vector.replicate 32 0, 0⟩).val.size ≤ 1152921504606846976 ∧ (qs.getD k ⟨0, 0, 0, ByteArray.empty, ByteArray.empty, ByteArray.empty, 0, 0, 0, Vector.replicate 32 0, 0⟩).old.size ≤ 1152921504606846976 := by
  have hcs : cs.length = 1 := by
    rcases DataW.trod_slice Tryd.underlying57 h with ⟨rfl, _⟩ | ⟨a, len, cap, _, _, _, _, rfl, _⟩ <;> rfl
  have h' : DataW.trod enc Tryd.prog w base spare held fuel 57 ((cs.drop 0).take (Tryd.prog.cellsOf 57)) = some x := by
    rw [show Tryd.prog.cellsOf 57 = 1 from by kernel_rfl, List.drop_zero, List.take_of_length_le (by omega)]; exact h
  obtain ⟨qs, els, A, c, p1, p2, p3, p4, p5⟩ := open_els (α := Req) (C := 42) Tryd.underlying57 (by kernel_rfl) (by kernel_rfl) (by decide) h' hf (fun q cs => OQ cs q) fun n cs y hy hfy => open_req hy hfy
  refine ⟨qs, A, c, ?_, ?_, fun k hk => ?_⟩
  · rw [from_whole p1, List.drop_eq_nil_of_le (by omega)]
  · rw [← els_map p3 fun k a e ha he => (p5 k a e ha he).cells]; exact p4
  · have e1 : qs[k]? = some (qs.getD k ⟨0, 0, 0, ByteArray.empty, ByteArray.empty, ByteArray.empty, 0, 0, 0, Vector.replicate 32 0, 0⟩) := by simp [List.getD_eq_getElem?_getD, hk]
    have := p5 k _ _ e1 (List.getElem?_eq_getElem (by omega))
    exact ⟨this.key, this.val, this.old⟩
theorem open_rz {qs : List Req} (h : ∀ k, k < qs.length →
      (qs.getD k ⟨0, 0, 0, ByteArray.empty, ByteArray.empty, ByteArray.empty, 0, 0, 0, Vector.replicate 32 0, 0⟩).key.size ≤ 1152921504606846976 ∧ (qs.getD k ⟨0, 0, 0, ByteArray.empty, ByteArray.empty, ByteArray.empty, 0, 0, 0, Vector.replicate 32 0, 0⟩).val.size ≤ 1152921504606846976 ∧ (qs.getD k ⟨0, 0, 0, ByteArray.empty, ByteArray.empty, ByteArray.empty, 0, 0, 0, Vector.replicate 32 0, 0⟩).old.size ≤ 1152921504606846976) : RZ qs := h
end
end Go.Proofs.YtchnnplcpidkiaaDoor
