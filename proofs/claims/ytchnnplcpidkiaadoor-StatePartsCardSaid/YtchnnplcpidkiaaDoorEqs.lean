/-
  '==' on members (a struct of a number and a key: an array of bytes and a number) and on pairs.
-/
import Derived.Test.YtchnnplcpidkiaaDoorBld
import Derived.ChangeKeysEq
namespace Go.Proofs.YtchnnplcpidkiaaDoor
open Go.RowKit

theorem eqItems_int {P : Program} {e : TypeId} {k : IntKind} (he : P.plainKey e = true) (hu : P.underlying e = some (.int k)) (dd : Nat) (xs ys : Array Value) (a b : Nat → Int) (w : World) :
    ∀ is : List Nat, (∀ i ∈ is, xs[i * 1]? = some (.int k (a i)) ∧ ys[i * 1]? = some (.int k (b i))) → (Op.eqItems (dd + 1) e 1 xs ys is).run P w = .ok (is.all fun i => a i == b i) w
  | [], _ => by simp [Op.eqItems]
  | i :: is, h => by
    obtain ⟨h1, h2⟩ := h i (by simp)
    have ih := eqItems_int he hu dd xs ys a b w is fun j hj => h j (by simp [hj])
    simp only [Op.eqItems, Sem.run_bind, run_part_plain w he h1, run_part_plain w he h2, Result.andThen_ok, run_equalIn_int w dd e k k (a i) (b i) hu, List.all_cons]
    cases hab : (a i == b i)
    · simp
    · simpa using ih

theorem cells_u8 : Tryd.prog.cellsOf 2 = 1 := by kernel_rfl

theorem part_agg {P : Program} {t : TypeId} {n : Nat} (w : World) (xs : Array Value) (off : Nat) {d : TypeDesc} (hu : P.underlying t = some d) (ha : (match d with | .struct _ | .array _ _ => true | _ => false) = true) {i : TypeInfo} (hi : P.info? t = some i) (hs : P.cellsOf t = n) :
    (part t xs off).run P w = .ok (.agg (xs.extract off (off + n))) w := by
  subst hs
  cases d <;> simp at ha <;> simp [part, isAgg, run_underlying hu, run_sizeOf w hi]

def vecEq (r r' : Vector Int 32) : Bool := (List.range 32).all fun i => r.toList.getD i 0 == r'.toList.getD i 0
theorem vecEq_iff {r r' : Vector Int 32} : vecEq r r' = true ↔ r = r' := by
  constructor
  · intro h
    simp only [vecEq, List.all_eq_true, List.mem_range, beq_iff_eq] at h
    apply Vector.ext
    intro i hi
    have := h i hi
    simpa [List.getD_eq_getElem?_getD, hi] using this
  · rintro rfl
    simp [vecEq]

theorem info_ex {P : Program} {t : TypeId} {d : TypeDesc} (hu : P.underlying t = some d) : ∃ i, P.info? t = some i := info_of_underlying hu

theorem nodeC_get (r : Vector Int 32) (h : Int) (i : Nat) (hi : i < 32) : (nodeC r h)[i]? = some (.int .u8 (r.toList.getD i 0)) := by
  rw [nodeC, List.getElem?_append_left (by simpa using hi), List.getElem?_map]
  simp [List.getD_eq_getElem?_getD, hi]
theorem nodeC_last (r : Vector Int 32) (h : Int) : (nodeC r h)[32]? = some (.int .i64 h) := by
  rw [nodeC, List.getElem?_append_right (by simp)]
  simp

def keyEq (r : Vector Int 32) (h : Int) (r' : Vector Int 32) (h' : Int) : Bool := vecEq r r' && h == h'
theorem keyEq_iff {r r' : Vector Int 32} {h h' : Int} : keyEq r h r' h' = true ↔ r = r' ∧ h = h' := by simp [keyEq, vecEq_iff]

theorem eq48 (dd : Nat) (xs ys : Array Value) (r r' : Vector Int 32) (w : World) (hx : ∀ i, i < 32 → xs[i]? = some (.int .u8 (r.toList.getD i 0))) (hy : ∀ i, i < 32 → ys[i]? = some (.int .u8 (r'.toList.getD i 0))) :
    (Op.equalIn (dd + 2) 48 (.agg xs) (.agg ys)).run Tryd.prog w = .ok (vecEq r r') w := by
  obtain ⟨i, hi⟩ := info_ex Tryd.underlying5
  rw [show dd + 2 = (dd + 1) + 1 from rfl, run_equalIn_array w (dd + 1) xs ys Tryd.underlying48 hi, show Tryd.prog.cellsOf 5 = 1 from by kernel_rfl]
  exact eqItems_int (by kernel_rfl) Tryd.underlying5 dd xs ys _ _ w _ fun j hj => ⟨by rw [Nat.mul_one]; exact hx j (List.mem_range.1 hj), by rw [Nat.mul_one]; exact hy j (List.mem_range.1 hj)⟩

theorem eqf {P : Program} {w : World} (d : Nat) (xs ys : Array Value) (f : Field) (fs : List Field) (a b : Value) (r r2 : Bool) (hn : f.name ≠ "_") (ha : (part f.type xs f.offset).run P w = .ok a w) (hb : (part f.type ys f.offset).run P w = .ok b w)
    (he : (Op.equalIn d f.type a b).run P w = .ok r w) (hr : r = true → (Op.eqFields d xs ys fs).run P w = .ok r2 w) : (Op.eqFields d xs ys (f :: fs)).run P w = .ok (r && r2) w := by
  simp only [Op.eqFields, hn, ne_eq, not_false_eq_true, if_true, Sem.run_bind, ha, hb, he, Result.andThen_ok]
  cases r
  · simp
  · simpa using hr rfl
theorem eqf0 {P : Program} {w : World} (d : Nat) (xs ys : Array Value) : (Op.eqFields d xs ys []).run P w = .ok true w := by simp [Op.eqFields]
theorem eqS {P : Program} {w : World} (d : Nat) (t : TypeId) (xs ys : Array Value) (fs : Array Field) (hu : P.underlying t = some (.struct fs)) (hp : P.stoodInHeld t = false) (r : Bool) (h : (Op.eqFields d xs ys fs.toList).run P w = .ok r w) :
    (Op.equalIn (d + 1) t (.agg xs) (.agg ys)).run P w = .ok r w := by
  have hf : P.fieldsOf t = fs := by simp [Program.fieldsOf, hu]
  rw [run_equalIn_struct w d t xs ys (by rw [hf]; exact hu) hp, hf]
  exact h

theorem cut_get {zs : Array Value} {cs : List Value} {off n : Nat} (hn : cs.length = n) (hz : ∀ (j : Nat) (u : Value), cs[j]? = some u → zs[off + j]? = some u) : ∀ (j : Nat) (u : Value), cs[j]? = some u → (zs.extract off (off + n))[j]? = some u := fun j u hu => by
  have h1 : j < n := by rw [← hn]; exact (List.getElem?_eq_some_iff.1 hu).1
  have h2 := hz j u hu
  have h3 : off + j < zs.size := (Array.getElem?_eq_some_iff.1 h2).1
  rw [Array.getElem?_extract, if_pos (by omega)]
  exact h2

theorem plain3 : Tryd.prog.plainKey 3 = true := by kernel_rfl
theorem plain9 : Tryd.prog.plainKey 9 = true := by kernel_rfl
theorem cells48 : Tryd.prog.cellsOf 48 = 32 := by kernel_rfl
theorem cells50 : Tryd.prog.cellsOf 50 = 33 := by kernel_rfl

theorem part48 (zs : Array Value) (off : Nat) (w : World) : (part 48 zs off).run Tryd.prog w = .ok (.agg (zs.extract off (off + 32))) w := by
  obtain ⟨i, hi⟩ := info_ex Tryd.underlying48
  exact part_agg w zs off Tryd.underlying48 rfl hi cells48
theorem part50 (zs : Array Value) (off : Nat) (w : World) : (part 50 zs off).run Tryd.prog w = .ok (.agg (zs.extract off (off + 33))) w := by
  obtain ⟨i, hi⟩ := info_ex Tryd.underlying50
  exact part_agg w zs off Tryd.underlying50 rfl hi cells50
theorem part3 {zs : Array Value} {off : Nat} {v : Value} (hv : zs[off]? = some v) (w : World) : (part 3 zs off).run Tryd.prog w = .ok v w := run_part_plain w plain3 hv
theorem part9 {zs : Array Value} {off : Nat} {v : Value} (hv : zs[off]? = some v) (w : World) : (part 9 zs off).run Tryd.prog w = .ok v w := run_part_plain w plain9 hv

theorem eq50 (dd : Nat) (xs ys : Array Value) (r r' : Vector Int 32) (h h' : Int) (w : World) (hx : ∀ (j : Nat) (u : Value), (nodeC r h)[j]? = some u → xs[j]? = some u) (hy : ∀ (j : Nat) (u : Value), (nodeC r' h')[j]? = some u → ys[j]? = some u) :
    (Op.equalIn (dd + 2 + 1) 50 (.agg xs) (.agg ys)).run Tryd.prog w = .ok (keyEq r h r' h') w := by
  have ex (zs : Array Value) (r : Vector Int 32) (h : Int) (hz : ∀ (j : Nat) (u : Value), (nodeC r h)[j]? = some u → zs[j]? = some u) : ∀ i, i < 32 → (zs.extract 0 (0 + 32))[i]? = some (.int .u8 (r.toList.getD i 0)) := fun i hi => by
    have h1 := hz i _ (nodeC_get r h i hi)
    have h2 : i < zs.size := (Array.getElem?_eq_some_iff.1 h1).1
    rw [Array.getElem?_extract, if_pos (by omega), Nat.zero_add]
    exact h1
  refine (eqS (dd + 2) 50 xs ys _ Tryd.underlying50 Tryd.stoodInHeld50 (vecEq r r' && ((h == h') && true)) ?_).trans (by simp [keyEq])
  refine eqf _ _ _ _ _ _ _ _ _ (by decide) (part48 xs 0 w) (part48 ys 0 w) (eq48 dd _ _ r r' w (ex xs r h hx) (ex ys r' h' hy)) fun _ => ?_
  exact eqf _ _ _ _ _ _ _ _ _ (by decide) (part3 (hx 32 _ (nodeC_last r h)) w) (part3 (hy 32 _ (nodeC_last r' h')) w) (run_equalIn_int w (dd + 1) 3 .i64 .i64 h h' Tryd.underlying3) fun _ => eqf0 _ _ _

def mbEq (m m' : Mb) : Bool := m.id == m'.id && keyEq m.root m.height m'.root m'.height
theorem mbEq_iff {m m' : Mb} : mbEq m m' = true ↔ m = m' := by
  cases m; cases m'
  simp [mbEq, keyEq_iff]

theorem Mb.node (m : Mb) : m.cells = .int .i64 m.id :: nodeC m.root m.height := rfl
theorem Mb.key_at (m : Mb) (j : Nat) (u : Value) (hu : (nodeC m.root m.height)[j]? = some u) : m.arr[1 + j]? = some u := by
  rw [Mb.arr, List.getElem?_toArray, Mb.node, show 1 + j = j + 1 from by omega, List.getElem?_cons_succ]
  exact hu
theorem eq84 (dd : Nat) (m m' : Mb) (w : World) : (Op.equalIn (dd + 2 + 1 + 1) 84 (.agg m.arr) (.agg m'.arr)).run Tryd.prog w = .ok (mbEq m m') w := by
  refine (eqS (dd + 2 + 1) 84 _ _ _ Tryd.underlying84 Tryd.stoodInHeld84 (m.id == m'.id && (keyEq m.root m.height m'.root m'.height && true)) ?_).trans (by simp [mbEq])
  refine eqf _ _ _ _ _ _ _ _ _ (by decide) (part3 (Mb.c0 m) w) (part3 (Mb.c0 m') w) (run_equalIn_int w _ 3 .i64 .i64 m.id m'.id Tryd.underlying3) fun _ => ?_
  exact eqf _ _ _ _ _ _ _ _ _ (by decide) (part50 m.arr 1 w) (part50 m'.arr 1 w) (eq50 dd _ _ m.root m'.root m.height m'.height w (cut_get (nodeC_len _ _) (Mb.key_at m)) (cut_get (nodeC_len _ _) (Mb.key_at m'))) fun _ => eqf0 _ _ _
@[go_sem] theorem neq84 (m m' : Mb) (w : World) : (binOp .neq 84 (.agg m.arr) (.agg m'.arr)).run Tryd.prog w = .ok (.bool (!mbEq m m')) w := by
  rw [run_neq_struct, show (10000 : Nat) = 9996 + 2 + 1 + 1 from rfl, eq84]
  rfl

def prEq (k v k' v' : ByteArray) : Bool := k.toList == k'.toList && v.toList == v'.toList
theorem eq42 (dd : Nat) (k v k' v' : ByteArray) (w : World) : (Op.equalIn (dd + 1 + 1) 42 (.agg #[.string k, .string v]) (.agg #[.string k', .string v'])).run Tryd.prog w = .ok (prEq k v k' v') w := by
  refine (eqS (dd + 1) 42 _ _ _ Tryd.underlying42 Tryd.stoodInHeld42 (k.toList == k'.toList && (v.toList == v'.toList && true)) ?_).trans (by simp [prEq])
  refine eqf _ _ _ _ _ _ _ _ _ (by decide) (part9 (v := .string k) rfl w) (part9 (v := .string k') rfl w) (run_equalIn_string w _ 9 _ _ Tryd.underlying9) fun _ => ?_
  exact eqf _ _ _ _ _ _ _ _ _ (by decide) (part9 (v := .string v) rfl w) (part9 (v := .string v') rfl w) (run_equalIn_string w _ 9 _ _ Tryd.underlying9) fun _ => eqf0 _ _ _
@[go_sem] theorem neq42 (k v k' v' : ByteArray) (w : World) : (binOp .neq 42 (.agg #[.string k, .string v]) (.agg #[.string k', .string v'])).run Tryd.prog w = .ok (.bool (!prEq k v k' v')) w := by
  rw [run_neq_struct, show (10000 : Nat) = 9998 + 1 + 1 from rfl, eq42]
  rfl
end Go.Proofs.YtchnnplcpidkiaaDoor
