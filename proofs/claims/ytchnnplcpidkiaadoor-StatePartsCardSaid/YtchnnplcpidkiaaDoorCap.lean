/-
  The contract of config.Apply.
-/
import Derived.Test.YtchnnplcpidkiaaDoorPre
import Derived.Test.YtchnnplcpidkiaaDoorBld
import Derived.Test.YtchnnplcpidkiaaDoorDel
import Derived.Test.YtchnnplcpidkiaaDoorIns
import Derived.Test.YtchnnplcpidkiaaDoorCopied
namespace Go.Proofs.YtchnnplcpidkiaaDoor
open Go.RowKit

def Chg.mb (g : Chg) : Mb := ⟨if g.kind = 3 then g.new else g.id, g.root, g.height⟩
def delMs (ms : List Mb) (g : Chg) : List Mb := if g.kind = 1 then ms else ms.take (findM ms g.id) ++ ms.drop (findM ms g.id + 1)
def insMs (ms : List Mb) (m : Mb) : List Mb := ms.take (findM ms m.id) ++ m :: ms.drop (findM ms m.id)
def cfgCode (ep : Int) (ms : List Mb) (g : Chg) : Int :=
  if goodM ep ms = false ∨ g.kind < 1 ∨ 4 < g.kind ∨ ep = 1073741824 then 1
  else if g.kind ≠ 2 ∧ rightM g.mb = false then 1
  else if g.kind ≠ 1 ∧ hasM ms g.id = false then 7
  else if (g.kind = 1 ∨ g.kind = 3) ∧ hasM ms g.mb.id = true then 9
  else if g.kind = 1 ∧ ms.length = 10 then 11
  else if g.kind = 2 ∧ ms.length = 1 then 10
  else 0
def cfgMs (ms : List Mb) (g : Chg) : List Mb := if g.kind = 2 then delMs ms g else insMs (delMs ms g) g.mb

def CapPost (w : World) (ep : Int) (ms : List Mb) (g : Chg) (E : Ending) (w' : World) : Prop :=
  (cfgCode ep ms g ≠ 0 → E = .returned (.tuple #[.agg #[.int .i64 0, .slice none 0 0], .int .i64 (cfgCode ep ms g)])) ∧
  (cfgCode ep ms g = 0 → ∃ A c, E = .returned (.tuple #[.agg #[.int .i64 (ep + 1), .slice A (cfgMs ms g).length c], .int .i64 0]) ∧ (cfgMs ms g).length ≤ c ∧ Own w' w.heap.size 84 34 (.slice A (cfgMs ms g).length c) ((cfgMs ms g).map Mb.cells)) ∧
  Below w.heap.size w w'

theorem at_c0 {w : World} {p : Addr} {v : Value} {o : Obj} (h : w.cell? p = some v) : (w.alloc o).cell? p = some v := cell_later ((Below.refl _ _).alloc (Nat.le_refl _) o) h
theorem at_cd {w : World} {p : Addr} {v : Value} {o : Obj} (h : w.cell? p = some v) : (w.drew.alloc o).cell? p = some v := at_c0 (w := w.drew) h
theorem goodM_sizes {ep : Int} {ms : List Mb} (h : goodM ep ms = true) : 0 ≤ ep ∧ ep ≤ 1073741824 ∧ 0 < ms.length ∧ ms.length ≤ 10 := by
  simp only [goodM, Bool.and_eq_true, decide_eq_true_eq] at h
  exact ⟨h.1.1.1.1, h.1.1.1.2, h.1.1.2, h.1.2⟩
theorem Mb.facts {w : World} {b : Nat} {m : Mb} {t : TypeId} {fz : Nat × Nat} (h : w.heap[b]? = some (.cells m.arr t fz)) :
    w.cell? ⟨b, 0, none⟩ = some (.int .i64 m.id) ∧ w.rangeAt b 0 m.cells :=
  ⟨by rw [cell_of_row w b _ _ t _ h]; rfl, fun j v hv => by rw [cell_of_row w b _ _ t _ h, Nat.zero_add]; simpa [Mb.arr] using hv⟩
theorem CapPost.bad {w w' : World} {ep : Int} {ms : List Mb} {g : Chg} {k : Int} (hk : k ≠ 0) (h : cfgCode ep ms g = k) (hb : Below w.heap.size w w') :
    CapPost w ep ms g (.returned (.tuple #[.agg #[.int .i64 0, .slice none 0 0], .int .i64 k])) w' :=
  ⟨fun _ => by rw [h], fun h0 => absurd (h.symm.trans h0) hk, hb⟩

structure CapI (W w : World) (ep : Int) (A : Option Addr) (n c : Nat) (g : Chg) (b6 : Nat) (ms : List Mb) (A' : Option Addr) (c' : Nat) : Prop where
  kC : W.heap[w.heap.size]? = some (.cells #[.int .i64 ep, .slice A n c] 26 (0, 0))
  kG : W.heap[w.heap.size + 1]? = some (.cells g.arr 52 (0, 0))
  kR : W.heap[w.heap.size + 1 + 1]? = some (.cells #[.int .i64 0, .slice none 0 0] 26 (0, 0))
  kN : W.heap[b6]? = some (.cells #[.int .i64 (ep + 1), .slice A' ms.length c'] 26 (0, 0))
  own : Own W w.heap.size 84 34 (.slice A' ms.length c') (ms.map Mb.cells)
  cap : ms.length ≤ c'
  bel : Below w.heap.size w W
  s6 : w.heap.size + 1 + 1 < b6

section
variable {W W' w : World} {ep : Int} {A : Option Addr} {n c : Nat} {g : Chg} {b6 : Nat} {ms : List Mb} {A' : Option Addr} {c' : Nat}
theorem CapI.later (h : CapI W w ep A n c g b6 ms A' c') (hb : Below W.heap.size W W') : CapI W' w ep A n c g b6 ms A' c' :=
  ⟨blk_later hb h.kC, blk_later hb h.kG, blk_later hb h.kR, blk_later hb h.kN, h.own.below hb, h.cap, h.bel.trans (hb.mono h.bel.size), h.s6⟩
theorem CapI.kept (h : CapI W w ep A n c g b6 ms A' c') (hg : W.grownBy W' (Value.slice A' ms.length c').ownBlock) : ∀ (k : Nat) (o : Obj), W.heap[k]? = some o → (∀ (cs : Array Value) (fz : Nat × Nat), o ≠ Obj.cells cs 84 fz) → W'.heap[k]? = some o := by
    intro k o hk hne
    refine blk_grown hg hk fun e => ?_
    obtain ⟨cells, hc⟩ := h.own.typed k e
    rw [hk] at hc
    cases hc
    exact hne _ _ rfl
theorem delMs_cells (ms : List Mb) (g : Chg) (h : g.kind ≠ 1) : (ms.map Mb.cells).take (findM ms g.id) ++ (ms.map Mb.cells).drop (findM ms g.id + 1) = (delMs ms g).map Mb.cells := by
  rw [delMs, if_neg h, List.map_append, List.map_take, List.map_drop]
theorem insMs_cells (ms : List Mb) (m : Mb) : (ms.map Mb.cells).take (findM ms m.id) ++ (m.cells :: (ms.map Mb.cells).drop (findM ms m.id)) = (insMs ms m).map Mb.cells := by
  rw [insMs, List.map_append, List.map_cons, List.map_take, List.map_drop]
theorem delMs_le (ms : List Mb) (g : Chg) : (delMs ms g).length ≤ ms.length := by
  rw [delMs]; split
  · exact Nat.le_refl _
  · simp; omega
theorem CapI.put (h : CapI W w ep A n c g b6 ms A' c') {ms2 : List Mb} {els2 : List (List Value)} {A2 : Option Addr} {c2 : Nat} (hg : W.grownBy W' (Value.slice A' ms.length c').ownBlock)
    (he : els2 = ms2.map Mb.cells) (ho : Own W' w.heap.size 84 34 (.slice A2 els2.length c2) els2) (hc : els2.length ≤ c2) :
    CapI (W'.setCell ⟨b6, 1, none⟩ (.slice A2 els2.length c2)) w ep A n c g b6 ms2 A2 c2 := by
  subst he
  have hrow : ∀ (k : Nat) (o : Obj), W.heap[k]? = some o → (∀ (cs : Array Value) (fz : Nat × Nat), o ≠ Obj.cells cs 84 fz) → W'.heap[k]? = some o := by
    intro k o hk hne
    refine blk_grown hg hk fun e => ?_
    obtain ⟨cells, hc⟩ := h.own.typed k e
    rw [hk] at hc
    cases hc
    exact hne _ _ rfl
  have kN' := hrow _ _ h.kN (by intro cs fz h; cases h)
  have hs := h.s6
  rw [List.length_map] at ho hc ⊢
  exact ⟨blk_set_other (hrow _ _ h.kC (by intro cs fz h; cases h)) (by omega) _ _, blk_set_other (hrow _ _ h.kG (by intro cs fz h; cases h)) (by omega) _ _,
    blk_set_other (hrow _ _ h.kR (by intro cs fz h; cases h)) (by omega) _ _, blk_set kN' 1 _, ho.set kN' (by decide) _ _, hc,
    (h.bel.grown hg h.bel.size (fun g hg => (h.own.base_le g hg).1)).setCell (p := ⟨b6, 1, none⟩) (by show w.heap.size ≤ b6; omega) _, h.s6⟩
theorem CapI.done (h : CapI W w ep A n c g b6 (cfgMs ms g) A' c') (h0 : cfgCode ep ms g = 0) :
    CapPost w ep ms g (.returned (.tuple #[.agg #[.int .i64 (ep + 1), .slice A' (cfgMs ms g).length c'], .int .i64 0])) (W.setRow (w.heap.size + 1 + 1) #[.int .i64 (ep + 1), .slice A' (cfgMs ms g).length c']) :=
  ⟨fun hne => absurd h0 hne, fun _ => ⟨A', c', rfl, h.cap, h.own.other h.kR (by decide) fun k hk => setRow_other _ _ _ _ hk⟩, below_setRow h.bel (by omega) _⟩
end
section
variable {ep : Int} {ms : List Mb} {g : Chg} (nb : ¬ (goodM ep ms = false ∨ g.kind < 1 ∨ 4 < g.kind ∨ ep = 1073741824))
include nb
theorem cfg_1 (h : g.kind ≠ 2 ∧ rightM g.mb = false) : cfgCode ep ms g = 1 := by rw [cfgCode, if_neg nb, if_pos h]
variable (n1 : ¬ (g.kind ≠ 2 ∧ rightM g.mb = false))
include n1
theorem cfg_7 (h : g.kind ≠ 1 ∧ hasM ms g.id = false) : cfgCode ep ms g = 7 := by rw [cfgCode, if_neg nb, if_neg n1, if_pos h]
variable (n7 : ¬ (g.kind ≠ 1 ∧ hasM ms g.id = false))
include n7
theorem cfg_9 (h : (g.kind = 1 ∨ g.kind = 3) ∧ hasM ms g.mb.id = true) : cfgCode ep ms g = 9 := by rw [cfgCode, if_neg nb, if_neg n1, if_neg n7, if_pos h]
variable (n9 : ¬ ((g.kind = 1 ∨ g.kind = 3) ∧ hasM ms g.mb.id = true))
include n9
theorem cfg_11 (h : g.kind = 1 ∧ ms.length = 10) : cfgCode ep ms g = 11 := by rw [cfgCode, if_neg nb, if_neg n1, if_neg n7, if_neg n9, if_pos h]
variable (n11 : ¬ (g.kind = 1 ∧ ms.length = 10))
include n11
theorem cfg_10 (h : g.kind = 2 ∧ ms.length = 1) : cfgCode ep ms g = 10 := by rw [cfgCode, if_neg nb, if_neg n1, if_neg n7, if_neg n9, if_neg n11, if_pos h]
theorem cfg_0 (n10 : ¬ (g.kind = 2 ∧ ms.length = 1)) : cfgCode ep ms g = 0 := by rw [cfgCode, if_neg nb, if_neg n1, if_neg n7, if_neg n9, if_neg n11, if_neg n10]
end
theorem set_id (W : World) (a x h : Int) (r : Vector Int 32) :
    (W.alloc (.cells (Mb.mk a r h).arr 84)).setCell ⟨W.heap.size, 0, none⟩ (.int .i64 x) = W.alloc (.cells (Mb.mk x r h).arr 84) := by
  rw [setCell_eq_setRow _ W.heap.size 0 _ 84 _ _ (heap_alloc_last _ _), World.setRow_alloc_new]
  rfl

set_option maxHeartbeats 2000000 in
set_option maxRecDepth 100000 in
theorem cap_any (T : TypeId → Prop) (A : Option Addr) (n c : Nat) (ep : Int) (ms : List Mb) (g : Chg) (w : World) (hn : ms.length = n) (hr : Row w T 34 A (ms.map Mb.cells)) (hb : ms.length ≤ 1000000) :
    Calls Tryd.prog 51 #[.agg #[.int .i64 ep, .slice A n c], .agg g.arr] w (CapPost w ep ms g) := by
  have HR := Lib.hid hr
  have HN := Lib.hid hn
  clear hr hn
  go_enter Tryd.func51, Tryd.ntmps51
  go_wp2_with fail
  refine (good_any T _ _ ms _ _ _ HN.out (HR.out.below ((((Below.refl _ _).alloc (Nat.le_refl _) _).alloc (by simp) _).alloc (by simp; omega) _))).mono ?_
  rintro e w1 ⟨rfl, hb1⟩
  have kC := Lib.hid (blk_later hb1 (at3_0 _ _ _ _))
  have kG := Lib.hid (blk_later hb1 (at3_1 _ _ _ _))
  have kR := Lib.hid (blk_later hb1 (at3_2 _ _ _ _))
  have hs1 := hb1.size
  have hB := Lib.hid ((((Below.refl w.heap.size w).alloc (Nat.le_refl _) _).alloc (by simp) _ |>.alloc (by simp; omega) _).trans (hb1.mono (by simp; omega)))
  simp only [World.size_alloc] at hs1
  have hz1 : w.heap.size + 1 + 1 < w1.heap.size := by omega
  clear hb1 hs1
  obtain ⟨q0, q1, _⟩ := two kC.out
  obtain ⟨g0, g1, g2, g3⟩ := Chg.facts kG.out
  obtain ⟨r0, r1, r2⟩ := two kR.out
  cases hgm : goodM ep ms
  · have hgm := Lib.hid hgm
    go_wp2_with fail
    rw [store2 kR.out]
    have hg := setRow_heap w1 (w.heap.size + 1 + 1) _ #[.int .i64 0, .slice none 0 0] 26 (0, 0) kR.out
    refine bodyPost_ret (res_ct rfl _ _ (w.heap.size + 1 + 1) 26 _ (0, 0) _ rfl hg Tryd.underlying26 rfl size26) rfl ?_
    exact CapPost.bad (by decide) (by rw [cfgCode, if_pos (Or.inl hgm.out)]) (below_setRow hB.out (by omega) _)
  by_cases hk1 : g.kind < 1
  · have hgm := Lib.hid hgm
    go_wp2_with fail
    rw [store2 kR.out]
    have hg := setRow_heap w1 (w.heap.size + 1 + 1) _ #[.int .i64 0, .slice none 0 0] 26 (0, 0) kR.out
    refine bodyPost_ret (res_ct rfl _ _ (w.heap.size + 1 + 1) 26 _ (0, 0) _ rfl hg Tryd.underlying26 rfl size26) rfl ?_
    exact CapPost.bad (by decide) (by rw [cfgCode, if_pos (Or.inr (Or.inl (by omega)))]) (below_setRow hB.out (by omega) _)
  by_cases hk4 : 4 < g.kind
  · have hgm := Lib.hid hgm
    go_wp2_with fail
    rw [store2 kR.out]
    have hg := setRow_heap w1 (w.heap.size + 1 + 1) _ #[.int .i64 0, .slice none 0 0] 26 (0, 0) kR.out
    refine bodyPost_ret (res_ct rfl _ _ (w.heap.size + 1 + 1) 26 _ (0, 0) _ rfl hg Tryd.underlying26 rfl size26) rfl ?_
    exact CapPost.bad (by decide) (by rw [cfgCode, if_pos (Or.inr (Or.inr (Or.inl (by omega))))]) (below_setRow hB.out (by omega) _)
  by_cases hep : ep = 1073741824
  · have hgm := Lib.hid hgm
    go_wp2_with fail
    rw [store2 kR.out]
    have hg := setRow_heap w1 (w.heap.size + 1 + 1) _ #[.int .i64 0, .slice none 0 0] 26 (0, 0) kR.out
    refine bodyPost_ret (res_ct rfl _ _ (w.heap.size + 1 + 1) 26 _ (0, 0) _ rfl hg Tryd.underlying26 rfl size26) rfl ?_
    exact CapPost.bad (by decide) (by rw [cfgCode, if_pos (Or.inr (Or.inr (Or.inr (by omega))))]) (below_setRow hB.out (by omega) _)
  have hgm := Lib.hid hgm
  obtain ⟨he0, he1, hl0, hl1⟩ := goodM_sizes hgm.out
  have NB := Lib.hid (show ¬ (goodM ep ms = false ∨ g.kind < 1 ∨ 4 < g.kind ∨ ep = 1073741824) from fun h => by rw [hgm.out] at h; simp at h; omega)
  have hepk : IntKind.i64.wrap (ep + 1) = ep + 1 := IntWalk.i64_in _ (by omega)
  have hepw : wrap64 (ep + 1) = ep + 1 := by simp only [wrap64]; omega
  go_wp2_with fail
  · rename_i hc
    exfalso
    simp at hc
    omega
  rename_i hcc _ _
  clear hcc
  have hnc : (ms.map Mb.cells).length = n := by rw [List.length_map]; exact HN.out
  have HNC := Lib.hid hnc
  have hbc : (ms.map Mb.cells).length ≤ 1000000 := by rw [List.length_map]; exact hb
  have HBC := Lib.hid hbc
  have HR1 := Lib.hid (HR.out.below hB.out.drew)
  have HR2 := fun o => Lib.hid (HR.out.below (hB.out.drew.alloc (Nat.le_trans (Nat.le_of_lt (by omega)) (Nat.le_refl w1.heap.size)) o))
  have HR2' := Lib.hid HR2
  have hn1 : ¬ w.heap.size = w1.heap.size := by omega
  have hn2 : ¬ w1.heap.size = w.heap.size := by omega
  have hkinds : g.kind = 1 ∨ g.kind = 2 ∨ g.kind = 3 ∨ g.kind = 4 := by omega
  clear hnc hbc g0 g1 g2 g3 r0 r1 r2 hk1 hk4 hep he0 he1 HR2
  go_region_held3 (fun W => W.cell? ⟨w.heap.size, 0, none⟩ = some (.int .i64 ep) ∧ W.cell? ⟨w.heap.size, 1, none⟩ = some (.slice A n c)) (go_keep)
    (first
      | (go_at_call 31; refine (cloneM_any T _ _ _ (ms.map Mb.cells) _ HNC.out HR1.out (mb_len ms) (mb_one ms) HBC.out).mono ?_; rintro e w2 ⟨A', c', rfl, hlc, ho, hb2⟩; have k0 := cell_later hb2 q0; have k1 := cell_later hb2 q1; have HO := Lib.hid ho; have HB2 := Lib.hid hb2; clear ho hb2)
      | (go_at_call 31; refine (cloneM_any T _ _ _ (ms.map Mb.cells) _ HNC.out (HR2'.out _).out (mb_len ms) (mb_one ms) HBC.out).mono ?_; rintro e w2 ⟨A', c', rfl, hlc, ho, hb2⟩; have k0 := cell_later hb2 (at_c0 q0); have k1 := cell_later hb2 (at_c0 q1); have kN : w2.heap[w1.heap.size]? = some (.cells #[.int .i64 0, .slice none 0 0] 26 (0, 0)) := blk_later hb2 (heap_alloc_last _ _); obtain ⟨n0, n1, n2⟩ := two kN; have HO := Lib.hid ho; have HB2 := Lib.hid hb2; clear ho hb2))
  · obtain ⟨W3, hW3⟩ : ∃ W3, W3 = w2.alloc (.cells #[.int .i64 (ep + 1), .slice A' ms.length c'] 26) := ⟨_, rfl⟩
    obtain ⟨b6, hb6⟩ : ∃ b6, b6 = w2.heap.size := ⟨_, rfl⟩
    have HI := Lib.hid (show CapI W3 w ep A n c g b6 ms A' c' from by
      have hb3 := HB2.out
      have hlo : w1.heap.size ≤ w2.heap.size := hb3.size
      have ho := HO.out
      rw [List.length_map] at ho hlc
      rw [hW3, hb6]
      exact ⟨at_up (blk_later hb3 kC.out) _, at_up (blk_later hb3 kG.out) _, at_up (blk_later hb3 kR.out) _, heap_alloc_last _ _,
        (ho.lower (by simp only [World.size_drew]; omega)).below ((Below.refl _ _).alloc (Nat.le_refl _) _), hlc,
        (hB.out.drew.trans (hb3.mono (by simp only [World.size_drew]; omega))).alloc (by omega) _, by omega⟩)
    rw [← hW3, ← hb6]
    clear hW3 hb6 HB2 HO k0 k1 hlc q0 q1 kC kG kR hn1 hn2 hepk hepw
    rcases hkinds with hk | hk | hk | hk
    · obtain ⟨c0, c1, _⟩ := two HI.out.kC
      obtain ⟨g0, g1, g2, g3⟩ := Chg.facts HI.out.kG
      rw [hk] at g0
      obtain ⟨n0, n1, n2⟩ := two HI.out.kN
      obtain ⟨r0, r1, r2⟩ := two HI.out.kR
      have HBx := Lib.hid (show Below W3.heap.size W3 (W3.alloc (.cells (Mb.mk g.id g.root g.height).arr 84)) from (Below.refl _ _).alloc (Nat.le_refl _) _)
      have hz3 : w.heap.size + 1 + 1 < W3.heap.size := heap_lt HI.out.kR
      have hz31 : w.heap.size + 1 < W3.heap.size := by omega
      have hz32 : w.heap.size < W3.heap.size := by omega
      have hz6 : b6 < W3.heap.size := heap_lt HI.out.kN
      have hgm3 : g.mb = Mb.mk g.id g.root g.height := by rw [Chg.mb, if_neg (by omega)]
      have m1 : (W3.alloc (.cells (Mb.mk g.id g.root g.height).arr 84)).rangeAt W3.heap.size 0 g.mb.cells := by rw [hgm3]; exact newRangeM _ _ _
      go_wp2_with (first
        | (with_reducible refine loadM rfl 50 _ rfl (w.heap.size + 1) 3 rfl 33 _ (nodeC_len _ _) _ g3 Tryd.underlying50 rfl size50 (nodeA g.root g.height) rfl ?_)
        | (refine buildM rfl 84 _ rfl (Mb.mk g.id g.root g.height).arr (built84 _ _ _) ?_)
        | (with_reducible refine storeNew rfl 84 _ _ rfl rfl (Mb.mk g.id g.root g.height).arr rfl 84 _ 34 (Mb.arrSize _) size84 rfl (Mb.ones _) ?_)
        | (with_reducible refine loadM rfl 84 _ rfl W3.heap.size 0 rfl 34 _ (Mb.len _) _ m1 Tryd.underlying84 rfl size84 g.mb.arr rfl ?_))
      have HI3 := Lib.hid (HI.out.later (show Below W3.heap.size W3 (W3.alloc (.cells (Mb.mk g.id g.root g.height).arr 84)) from (Below.refl _ _).alloc (Nat.le_refl _) _))
      have kM3 := Lib.hid (show (W3.alloc (.cells (Mb.mk g.id g.root g.height).arr 84)).heap[W3.heap.size]? = some (.cells g.mb.arr 84 (0, 0)) from by rw [hgm3]; exact heap_alloc_last _ _)
      have hr4 := right_any g.mb
      rw [hgm3] at hr4
      refine (hr4 _).mono ?_
      rintro e w4 ⟨rfl, hb4⟩
      clear hr4 c0 c1 g0 g1 g2 g3 n0 n1 n2 r0 r1 r2 m1 hz3 hz31 hz32 hz6 HBx
      rw [← hgm3]
      have HGM := Lib.hid hgm3
      clear hgm3
      have HI4 := Lib.hid (HI3.out.later hb4)
      have kM4 := Lib.hid (blk_later hb4 kM3.out)
      clear hb4
      have hy : w.heap.size + 1 + 1 < w4.heap.size := heap_lt HI4.out.kR
      have hy1 : w.heap.size + 1 < w4.heap.size := by omega
      have hy2 : w.heap.size < w4.heap.size := by omega
      have hy6 : b6 < w4.heap.size := heap_lt HI4.out.kN
      obtain ⟨c0, c1, _⟩ := two HI4.out.kC
      obtain ⟨g0, g1, g2, g3⟩ := Chg.facts HI4.out.kG
      rw [hk] at g0
      obtain ⟨n0, n1, n2⟩ := two HI4.out.kN
      obtain ⟨r0, r1, r2⟩ := two HI4.out.kR
      obtain ⟨m0, m1⟩ := Mb.facts kM4.out
      cases hrt : rightM g.mb
      · have hrt := Lib.hid hrt
        go_wp2_with fail
        rw [store2 HI4.out.kR]
        have hg := setRow_heap w4 (w.heap.size + 1 + 1) _ #[.int .i64 0, .slice none 0 0] 26 (0, 0) HI4.out.kR
        refine bodyPost_ret (res_ct rfl _ _ (w.heap.size + 1 + 1) 26 _ (0, 0) _ rfl hg Tryd.underlying26 rfl size26) rfl ?_
        exact CapPost.bad (by decide) (cfg_1 NB.out ⟨by omega, hrt.out⟩) (below_setRow HI4.out.bel (by omega) _)
      have hrt' := Lib.hid hrt
      have N1 := Lib.hid (show ¬ (g.kind ≠ 2 ∧ rightM g.mb = false) from fun h => by rw [hrt'.out] at h; cases h.2)
      clear hrt
      go_wp2_with fail
      refine (find_n T A n ms _ _ _ _ HN.out (HR.out.below HI4.out.bel) hb).mono ?_
      rintro e w5 ⟨rfl, hb5⟩
      clear c0 c1 g0 g1 g2 g3 n0 n1 n2 r0 r1 r2 m0 m1 hy hy1 hy2 hy6
      have HI5 := Lib.hid (HI4.out.later hb5)
      have kM5 := Lib.hid (blk_later hb5 kM4.out)
      clear hb5
      have hy : w.heap.size + 1 + 1 < w5.heap.size := heap_lt HI5.out.kR
      have hy1 : w.heap.size + 1 < w5.heap.size := by omega
      have hy2 : w.heap.size < w5.heap.size := by omega
      have hy6 : b6 < w5.heap.size := heap_lt HI5.out.kN
      obtain ⟨c0, c1, _⟩ := two HI5.out.kC
      obtain ⟨g0, g1, g2, g3⟩ := Chg.facts HI5.out.kG
      rw [hk] at g0
      obtain ⟨n0, n1, n2⟩ := two HI5.out.kN
      obtain ⟨r0, r1, r2⟩ := two HI5.out.kR
      obtain ⟨m0, m1⟩ := Mb.facts kM5.out
      go_wp2_with fail
      refine (find_n T A n ms _ _ _ _ HN.out (HR.out.below HI5.out.bel) hb).mono ?_
      rintro e w6 ⟨rfl, hb6⟩
      clear c0 c1 g0 g1 g2 g3 n0 n1 n2 r0 r1 r2 m0 m1 hy hy1 hy2 hy6
      have HI6 := Lib.hid (HI5.out.later hb6)
      have kM6 := Lib.hid (blk_later hb6 kM5.out)
      clear hb6
      have hy : w.heap.size + 1 + 1 < w6.heap.size := heap_lt HI6.out.kR
      have hy1 : w.heap.size + 1 < w6.heap.size := by omega
      have hy2 : w.heap.size < w6.heap.size := by omega
      have hy6 : b6 < w6.heap.size := heap_lt HI6.out.kN
      obtain ⟨c0, c1, _⟩ := two HI6.out.kC
      obtain ⟨g0, g1, g2, g3⟩ := Chg.facts HI6.out.kG
      rw [hk] at g0
      obtain ⟨n0, n1, n2⟩ := two HI6.out.kN
      obtain ⟨r0, r1, r2⟩ := two HI6.out.kR
      obtain ⟨m0, m1⟩ := Mb.facts kM6.out
      have N7 := Lib.hid (show ¬ (g.kind ≠ 1 ∧ hasM ms g.id = false) from fun h => h.1 hk)
      cases hot : hasM ms g.mb.id
      case true =>
        have hot := Lib.hid hot
        go_wp2_with fail
        rw [store2 HI6.out.kR]
        have hg := setRow_heap w6 (w.heap.size + 1 + 1) _ #[.int .i64 0, .slice none 0 0] 26 (0, 0) HI6.out.kR
        refine bodyPost_ret (res_ct rfl _ _ (w.heap.size + 1 + 1) 26 _ (0, 0) _ rfl hg Tryd.underlying26 rfl size26) rfl ?_
        exact CapPost.bad (by decide) (cfg_9 NB.out N1.out N7.out ⟨by omega, hot.out⟩) (below_setRow HI6.out.bel (by omega) _)
      have hot' := Lib.hid hot
      have N9 := Lib.hid (show ¬ ((g.kind = 1 ∨ g.kind = 3) ∧ hasM ms g.mb.id = true) from fun h => by rw [hot'.out] at h; cases h.2)
      clear hot
      by_cases hlen : n = 10
      · have hlen1 : (n : Int) = 10 := by omega
        go_wp2_with fail
        rw [store2 HI6.out.kR]
        have hg := setRow_heap w6 (w.heap.size + 1 + 1) _ #[.int .i64 0, .slice none 0 0] 26 (0, 0) HI6.out.kR
        refine bodyPost_ret (res_ct rfl _ _ (w.heap.size + 1 + 1) 26 _ (0, 0) _ rfl hg Tryd.underlying26 rfl size26) rfl ?_
        exact CapPost.bad (by decide) (cfg_11 NB.out N1.out N7.out N9.out ⟨hk, by rw [HN.out]; exact hlen⟩) (below_setRow HI6.out.bel (by omega) _)
      have hlen1 : ¬ (n : Int) = 10 := by omega
      have N11 := Lib.hid (show ¬ (g.kind = 1 ∧ ms.length = 10) from fun h => hlen (HN.out.symm.trans h.2))
      have N10 := Lib.hid (show ¬ (g.kind = 2 ∧ ms.length = 1) from fun h => by omega)
      have h0 := Lib.hid (cfg_0 NB.out N1.out N7.out N9.out N11.out N10.out)
      clear N1 N7 N9 N11 N10
      go_wp2_with fail
      refine (find_n _ A' _ ms _ _ _ _ rfl HI6.out.own.rowOf hb).mono ?_
      rintro e w8 ⟨rfl, hb8⟩
      clear c0 c1 g0 g1 g2 g3 n0 n1 n2 r0 r1 r2 m0 m1 hy hy1 hy2 hy6
      have HI8 := Lib.hid (HI6.out.later hb8)
      have kM8 := Lib.hid (blk_later hb8 kM6.out)
      clear hb8
      have hy : w.heap.size + 1 + 1 < w8.heap.size := heap_lt HI8.out.kR
      have hy1 : w.heap.size + 1 < w8.heap.size := by omega
      have hy2 : w.heap.size < w8.heap.size := by omega
      have hy6 : b6 < w8.heap.size := heap_lt HI8.out.kN
      obtain ⟨c0, c1, _⟩ := two HI8.out.kC
      obtain ⟨g0, g1, g2, g3⟩ := Chg.facts HI8.out.kG
      rw [hk] at g0
      obtain ⟨n0, n1, n2⟩ := two HI8.out.kN
      obtain ⟨r0, r1, r2⟩ := two HI8.out.kR
      obtain ⟨m0, m1⟩ := Mb.facts kM8.out
      go_wp2_with (first | (with_reducible refine loadM rfl 84 _ rfl W3.heap.size 0 rfl 34 _ (Mb.len _) _ m1 Tryd.underlying84 rfl size84 g.mb.arr rfl ?_))
      have hcl : cfgMs ms g = insMs ms g.mb := by rw [cfgMs, if_neg (by omega), delMs, if_pos hk]
      refine (insM_any w.heap.size A' ms.length c' (findM ms g.mb.id) w8.heap.size (ms.map Mb.cells) g.mb.cells g.mb.arr _ (HI8.out.own.below ((Below.refl _ _).alloc (Nat.le_refl _) _)) (mb_one ms) (bs_le _ _) (by have := delMs_le ms g; omega)
        (Mb.len _) (fun u hu => Mb.ones _ u hu) rfl (heap_alloc_last _ _) (fun e => Nat.lt_irrefl _ (HI8.out.own.base_le _ e).2) (by rw [World.size_alloc]; omega)).mono ?_
      rintro e w9 ⟨A9, c9, rfl, hc9, ho9, hg9⟩
      clear m0 m1 n0 n1 n2 c0 c1 g0 g1 g2 g3 r0 r1 r2
      have hcc : (ms.map Mb.cells).take (findM ms g.mb.id) ++ (g.mb.cells :: (ms.map Mb.cells).drop (findM ms g.mb.id)) = (cfgMs ms g).map Mb.cells := by rw [hcl]; exact insMs_cells _ _
      have hll : ((ms.map Mb.cells).take (findM ms g.mb.id) ++ (g.mb.cells :: (ms.map Mb.cells).drop (findM ms g.mb.id))).length = (cfgMs ms g).length := by rw [hcc, List.length_map]
      have HIa := Lib.hid (HI8.out.later (W' := w8.alloc (.cells g.mb.arr 84)) ((Below.refl _ _).alloc (Nat.le_refl _) _))
      have HI9 := Lib.hid (HIa.out.put (ms2 := cfgMs ms g) hg9 hcc ho9 hc9)
      rw [hll] at HI9 ⊢
      clear hll hcc hcl
      obtain ⟨n0, n1, n2⟩ := two (HIa.out.kept hg9 _ _ HIa.out.kN (by intro cs fz h; cases h))
      obtain ⟨c0, c1, _⟩ := two (HIa.out.kept hg9 _ _ HIa.out.kC (by intro cs fz h; cases h))
      obtain ⟨g0, g1, g2, g3⟩ := Chg.facts (HIa.out.kept hg9 _ _ HIa.out.kG (by intro cs fz h; cases h))
      rw [hk] at g0
      obtain ⟨r0, r1, r2⟩ := two (HIa.out.kept hg9 _ _ HIa.out.kR (by intro cs fz h; cases h))
      have x1 : ¬ b6 = w.heap.size := by have := HIa.out.s6; omega
      have x2 : ¬ b6 = w.heap.size + 1 := by have := HIa.out.s6; omega
      have x3 : ¬ b6 = w.heap.size + 1 + 1 := by have := HIa.out.s6; omega
      have x4 : ¬ w.heap.size = b6 := by have := HIa.out.s6; omega
      have x5 : ¬ w.heap.size + 1 = b6 := by have := HIa.out.s6; omega
      have x6 : ¬ w.heap.size + 1 + 1 = b6 := by have := HIa.out.s6; omega
      go_wp2_with fail
      rw [store2 HI9.out.kR]
      have hg := setRow_heap (w9.setCell ⟨b6, 1, none⟩ (.slice A9 (cfgMs ms g).length c9)) (w.heap.size + 1 + 1) _ #[.int .i64 (ep + 1), .slice A9 (cfgMs ms g).length c9] 26 (0, 0) HI9.out.kR
      refine bodyPost_ret (res_ct rfl _ _ (w.heap.size + 1 + 1) 26 _ (0, 0) _ rfl hg Tryd.underlying26 rfl size26) rfl ?_
      exact HI9.out.done h0.out
    · obtain ⟨c0, c1, _⟩ := two HI.out.kC
      obtain ⟨g0, g1, g2, g3⟩ := Chg.facts HI.out.kG
      rw [hk] at g0
      obtain ⟨n0, n1, n2⟩ := two HI.out.kN
      obtain ⟨r0, r1, r2⟩ := two HI.out.kR
      have HBx := Lib.hid (show Below W3.heap.size W3 (W3.alloc (.cells (Mb.mk g.id g.root g.height).arr 84)) from (Below.refl _ _).alloc (Nat.le_refl _) _)
      have hz3 : w.heap.size + 1 + 1 < W3.heap.size := heap_lt HI.out.kR
      have hz31 : w.heap.size + 1 < W3.heap.size := by omega
      have hz32 : w.heap.size < W3.heap.size := by omega
      have hz6 : b6 < W3.heap.size := heap_lt HI.out.kN
      have hgm3 : g.mb = Mb.mk g.id g.root g.height := by rw [Chg.mb, if_neg (by omega)]
      have m1 : (W3.alloc (.cells (Mb.mk g.id g.root g.height).arr 84)).rangeAt W3.heap.size 0 g.mb.cells := by rw [hgm3]; exact newRangeM _ _ _
      go_wp2_with (first
        | (with_reducible refine loadM rfl 50 _ rfl (w.heap.size + 1) 3 rfl 33 _ (nodeC_len _ _) _ g3 Tryd.underlying50 rfl size50 (nodeA g.root g.height) rfl ?_)
        | (refine buildM rfl 84 _ rfl (Mb.mk g.id g.root g.height).arr (built84 _ _ _) ?_)
        | (with_reducible refine storeNew rfl 84 _ _ rfl rfl (Mb.mk g.id g.root g.height).arr rfl 84 _ 34 (Mb.arrSize _) size84 rfl (Mb.ones _) ?_)
        | (with_reducible refine loadM rfl 84 _ rfl W3.heap.size 0 rfl 34 _ (Mb.len _) _ m1 Tryd.underlying84 rfl size84 g.mb.arr rfl ?_))
      have HI3 := Lib.hid (HI.out.later (show Below W3.heap.size W3 (W3.alloc (.cells (Mb.mk g.id g.root g.height).arr 84)) from (Below.refl _ _).alloc (Nat.le_refl _) _))
      have kM3 := Lib.hid (show (W3.alloc (.cells (Mb.mk g.id g.root g.height).arr 84)).heap[W3.heap.size]? = some (.cells g.mb.arr 84 (0, 0)) from by rw [hgm3]; exact heap_alloc_last _ _)
      have N1 := Lib.hid (show ¬ (g.kind ≠ 2 ∧ rightM g.mb = false) from fun h => h.1 hk)
      have HGM := Lib.hid hgm3
      clear hgm3
      refine (find_n T A n ms _ _ _ _ HN.out (HR.out.below HI3.out.bel) hb).mono ?_
      rintro e w5 ⟨rfl, hb5⟩
      clear c0 c1 g0 g1 g2 g3 n0 n1 n2 r0 r1 r2 m1 hz3 hz31 hz32 hz6 HBx
      have HI5 := Lib.hid (HI3.out.later hb5)
      have kM5 := Lib.hid (blk_later hb5 kM3.out)
      clear hb5
      have hy : w.heap.size + 1 + 1 < w5.heap.size := heap_lt HI5.out.kR
      have hy1 : w.heap.size + 1 < w5.heap.size := by omega
      have hy2 : w.heap.size < w5.heap.size := by omega
      have hy6 : b6 < w5.heap.size := heap_lt HI5.out.kN
      obtain ⟨c0, c1, _⟩ := two HI5.out.kC
      obtain ⟨g0, g1, g2, g3⟩ := Chg.facts HI5.out.kG
      rw [hk] at g0
      obtain ⟨n0, n1, n2⟩ := two HI5.out.kN
      obtain ⟨r0, r1, r2⟩ := two HI5.out.kR
      obtain ⟨m0, m1⟩ := Mb.facts kM5.out
      go_wp2_with fail
      refine (find_n T A n ms _ _ _ _ HN.out (HR.out.below HI5.out.bel) hb).mono ?_
      rintro e w6 ⟨rfl, hb6⟩
      clear c0 c1 g0 g1 g2 g3 n0 n1 n2 r0 r1 r2 m0 m1 hy hy1 hy2 hy6
      have HI6 := Lib.hid (HI5.out.later hb6)
      have kM6 := Lib.hid (blk_later hb6 kM5.out)
      clear hb6
      have hy : w.heap.size + 1 + 1 < w6.heap.size := heap_lt HI6.out.kR
      have hy1 : w.heap.size + 1 < w6.heap.size := by omega
      have hy2 : w.heap.size < w6.heap.size := by omega
      have hy6 : b6 < w6.heap.size := heap_lt HI6.out.kN
      obtain ⟨c0, c1, _⟩ := two HI6.out.kC
      obtain ⟨g0, g1, g2, g3⟩ := Chg.facts HI6.out.kG
      rw [hk] at g0
      obtain ⟨n0, n1, n2⟩ := two HI6.out.kN
      obtain ⟨r0, r1, r2⟩ := two HI6.out.kR
      obtain ⟨m0, m1⟩ := Mb.facts kM6.out
      cases his : hasM ms g.id
      · have his := Lib.hid his
        go_wp2_with fail
        rw [store2 HI6.out.kR]
        have hg := setRow_heap w6 (w.heap.size + 1 + 1) _ #[.int .i64 0, .slice none 0 0] 26 (0, 0) HI6.out.kR
        refine bodyPost_ret (res_ct rfl _ _ (w.heap.size + 1 + 1) 26 _ (0, 0) _ rfl hg Tryd.underlying26 rfl size26) rfl ?_
        exact CapPost.bad (by decide) (cfg_7 NB.out N1.out ⟨by omega, his.out⟩) (below_setRow HI6.out.bel (by omega) _)
      have his' := Lib.hid his
      have N7 := Lib.hid (show ¬ (g.kind ≠ 1 ∧ hasM ms g.id = false) from fun h => by rw [his'.out] at h; cases h.2)
      clear his
      have N9 := Lib.hid (show ¬ ((g.kind = 1 ∨ g.kind = 3) ∧ hasM ms g.mb.id = true) from fun h => by omega)
      have N11 := Lib.hid (show ¬ (g.kind = 1 ∧ ms.length = 10) from fun h => by omega)
      by_cases hlen : n = 1
      · have hlen1 : (n : Int) = 1 := by omega
        go_wp2_with fail
        rw [store2 HI6.out.kR]
        have hg := setRow_heap w6 (w.heap.size + 1 + 1) _ #[.int .i64 0, .slice none 0 0] 26 (0, 0) HI6.out.kR
        refine bodyPost_ret (res_ct rfl _ _ (w.heap.size + 1 + 1) 26 _ (0, 0) _ rfl hg Tryd.underlying26 rfl size26) rfl ?_
        exact CapPost.bad (by decide) (cfg_10 NB.out N1.out N7.out N9.out N11.out ⟨hk, by rw [HN.out]; exact hlen⟩) (below_setRow HI6.out.bel (by omega) _)
      have hlen1 : ¬ (n : Int) = 1 := by omega
      have N10 := Lib.hid (show ¬ (g.kind = 2 ∧ ms.length = 1) from fun h => hlen (HN.out.symm.trans h.2))
      have h0 := Lib.hid (cfg_0 NB.out N1.out N7.out N9.out N11.out N10.out)
      clear N1 N7 N9 N11 N10
      have hfl := findM_lt his'.out
      have hfw : wrap64 ((findM ms g.id : Int) + 1) = (findM ms g.id : Int) + 1 := by simp only [wrap64]; omega
      go_wp2_with fail
      refine (delM_any w.heap.size A' ms.length c' (findM ms g.id) _ (ms.map Mb.cells) w6 HI6.out.own (mb_one ms) (findM_lt his'.out) (by first | rfl | (simp only [wrap64]; omega)) (by omega)).mono ?_
      rintro e w7 ⟨A7, c7, rfl, hc7, ho7, hg7⟩
      clear c0 c1 g0 g1 g2 g3 n0 n1 n2 r0 r1 r2 m0 m1 hy hy1 hy2 hy6
      have hcl : cfgMs ms g = delMs ms g := by rw [cfgMs, if_pos hk]
      have hll : ((ms.map Mb.cells).take (findM ms g.id) ++ (ms.map Mb.cells).drop (findM ms g.id + 1)).length = (cfgMs ms g).length := by rw [delMs_cells ms g (by omega), List.length_map, hcl]
      have HI7 := Lib.hid (HI6.out.put (ms2 := cfgMs ms g) hg7 (by rw [hcl]; exact delMs_cells ms g (by omega)) ho7 hc7)
      rw [hll] at HI7 ⊢
      clear hll hcl
      obtain ⟨n0, n1, n2⟩ := two (HI6.out.kept hg7 _ _ HI6.out.kN (by intro cs fz h; cases h))
      obtain ⟨c0, c1, _⟩ := two (HI6.out.kept hg7 _ _ HI6.out.kC (by intro cs fz h; cases h))
      obtain ⟨g0, g1, g2, g3⟩ := Chg.facts (HI6.out.kept hg7 _ _ HI6.out.kG (by intro cs fz h; cases h))
      rw [hk] at g0
      obtain ⟨r0, r1, r2⟩ := two (HI6.out.kept hg7 _ _ HI6.out.kR (by intro cs fz h; cases h))
      have x1 : ¬ b6 = w.heap.size := by have := HI6.out.s6; omega
      have x2 : ¬ b6 = w.heap.size + 1 := by have := HI6.out.s6; omega
      have x3 : ¬ b6 = w.heap.size + 1 + 1 := by have := HI6.out.s6; omega
      have x4 : ¬ w.heap.size = b6 := by have := HI6.out.s6; omega
      have x5 : ¬ w.heap.size + 1 = b6 := by have := HI6.out.s6; omega
      have x6 : ¬ w.heap.size + 1 + 1 = b6 := by have := HI6.out.s6; omega
      go_wp2_with fail
      rw [store2 HI7.out.kR]
      have hg := setRow_heap (w7.setCell ⟨b6, 1, none⟩ (.slice A7 (cfgMs ms g).length c7)) (w.heap.size + 1 + 1) _ #[.int .i64 (ep + 1), .slice A7 (cfgMs ms g).length c7] 26 (0, 0) HI7.out.kR
      refine bodyPost_ret (res_ct rfl _ _ (w.heap.size + 1 + 1) 26 _ (0, 0) _ rfl hg Tryd.underlying26 rfl size26) rfl ?_
      exact HI7.out.done h0.out
    · obtain ⟨c0, c1, _⟩ := two HI.out.kC
      obtain ⟨g0, g1, g2, g3⟩ := Chg.facts HI.out.kG
      rw [hk] at g0
      obtain ⟨n0, n1, n2⟩ := two HI.out.kN
      obtain ⟨r0, r1, r2⟩ := two HI.out.kR
      have HBx := Lib.hid (show Below W3.heap.size W3 (W3.alloc (.cells (Mb.mk g.id g.root g.height).arr 84)) from (Below.refl _ _).alloc (Nat.le_refl _) _)
      have hz3 : w.heap.size + 1 + 1 < W3.heap.size := heap_lt HI.out.kR
      have hz31 : w.heap.size + 1 < W3.heap.size := by omega
      have hz32 : w.heap.size < W3.heap.size := by omega
      have hz6 : b6 < W3.heap.size := heap_lt HI.out.kN
      have hgm3 : g.mb = Mb.mk g.new g.root g.height := by rw [Chg.mb, if_pos hk]
      have m1 : (W3.alloc (.cells (Mb.mk g.new g.root g.height).arr 84)).rangeAt W3.heap.size 0 g.mb.cells := by rw [hgm3]; exact newRangeM _ _ _
      go_wp2_with (first
        | (with_reducible refine loadM rfl 50 _ rfl (w.heap.size + 1) 3 rfl 33 _ (nodeC_len _ _) _ g3 Tryd.underlying50 rfl size50 (nodeA g.root g.height) rfl ?_)
        | (refine buildM rfl 84 _ rfl (Mb.mk g.id g.root g.height).arr (built84 _ _ _) ?_)
        | (with_reducible refine storeNew rfl 84 _ _ rfl rfl (Mb.mk g.id g.root g.height).arr rfl 84 _ 34 (Mb.arrSize _) size84 rfl (Mb.ones _) ?_)
        | (with_reducible refine loadM rfl 84 _ rfl W3.heap.size 0 rfl 34 _ (Mb.len _) _ m1 Tryd.underlying84 rfl size84 g.mb.arr rfl ?_))
      have HI3 := Lib.hid (HI.out.later (show Below W3.heap.size W3 (W3.alloc (.cells (Mb.mk g.new g.root g.height).arr 84)) from (Below.refl _ _).alloc (Nat.le_refl _) _))
      have kM3 := Lib.hid (show (W3.alloc (.cells (Mb.mk g.new g.root g.height).arr 84)).heap[W3.heap.size]? = some (.cells g.mb.arr 84 (0, 0)) from by rw [hgm3]; exact heap_alloc_last _ _)
      have hr4 := right_any g.mb
      rw [hgm3] at hr4
      refine (hr4 _).mono ?_
      rintro e w4 ⟨rfl, hb4⟩
      clear hr4 c0 c1 g0 g1 g2 g3 n0 n1 n2 r0 r1 r2 m1 hz3 hz31 hz32 hz6 HBx
      rw [← hgm3]
      have HGM := Lib.hid hgm3
      clear hgm3
      have HI4 := Lib.hid (HI3.out.later hb4)
      have kM4 := Lib.hid (blk_later hb4 kM3.out)
      clear hb4
      have hy : w.heap.size + 1 + 1 < w4.heap.size := heap_lt HI4.out.kR
      have hy1 : w.heap.size + 1 < w4.heap.size := by omega
      have hy2 : w.heap.size < w4.heap.size := by omega
      have hy6 : b6 < w4.heap.size := heap_lt HI4.out.kN
      obtain ⟨c0, c1, _⟩ := two HI4.out.kC
      obtain ⟨g0, g1, g2, g3⟩ := Chg.facts HI4.out.kG
      rw [hk] at g0
      obtain ⟨n0, n1, n2⟩ := two HI4.out.kN
      obtain ⟨r0, r1, r2⟩ := two HI4.out.kR
      obtain ⟨m0, m1⟩ := Mb.facts kM4.out
      cases hrt : rightM g.mb
      · have hrt := Lib.hid hrt
        go_wp2_with fail
        rw [store2 HI4.out.kR]
        have hg := setRow_heap w4 (w.heap.size + 1 + 1) _ #[.int .i64 0, .slice none 0 0] 26 (0, 0) HI4.out.kR
        refine bodyPost_ret (res_ct rfl _ _ (w.heap.size + 1 + 1) 26 _ (0, 0) _ rfl hg Tryd.underlying26 rfl size26) rfl ?_
        exact CapPost.bad (by decide) (cfg_1 NB.out ⟨by omega, hrt.out⟩) (below_setRow HI4.out.bel (by omega) _)
      have hrt' := Lib.hid hrt
      have N1 := Lib.hid (show ¬ (g.kind ≠ 2 ∧ rightM g.mb = false) from fun h => by rw [hrt'.out] at h; cases h.2)
      clear hrt
      go_wp2_with fail
      refine (find_n T A n ms _ _ _ _ HN.out (HR.out.below HI4.out.bel) hb).mono ?_
      rintro e w5 ⟨rfl, hb5⟩
      clear c0 c1 g0 g1 g2 g3 n0 n1 n2 r0 r1 r2 m0 m1 hy hy1 hy2 hy6
      have HI5 := Lib.hid (HI4.out.later hb5)
      have kM5 := Lib.hid (blk_later hb5 kM4.out)
      clear hb5
      have hy : w.heap.size + 1 + 1 < w5.heap.size := heap_lt HI5.out.kR
      have hy1 : w.heap.size + 1 < w5.heap.size := by omega
      have hy2 : w.heap.size < w5.heap.size := by omega
      have hy6 : b6 < w5.heap.size := heap_lt HI5.out.kN
      obtain ⟨c0, c1, _⟩ := two HI5.out.kC
      obtain ⟨g0, g1, g2, g3⟩ := Chg.facts HI5.out.kG
      rw [hk] at g0
      obtain ⟨n0, n1, n2⟩ := two HI5.out.kN
      obtain ⟨r0, r1, r2⟩ := two HI5.out.kR
      obtain ⟨m0, m1⟩ := Mb.facts kM5.out
      go_wp2_with fail
      refine (find_n T A n ms _ _ _ _ HN.out (HR.out.below HI5.out.bel) hb).mono ?_
      rintro e w6 ⟨rfl, hb6⟩
      clear c0 c1 g0 g1 g2 g3 n0 n1 n2 r0 r1 r2 m0 m1 hy hy1 hy2 hy6
      have HI6 := Lib.hid (HI5.out.later hb6)
      have kM6 := Lib.hid (blk_later hb6 kM5.out)
      clear hb6
      have hy : w.heap.size + 1 + 1 < w6.heap.size := heap_lt HI6.out.kR
      have hy1 : w.heap.size + 1 < w6.heap.size := by omega
      have hy2 : w.heap.size < w6.heap.size := by omega
      have hy6 : b6 < w6.heap.size := heap_lt HI6.out.kN
      obtain ⟨c0, c1, _⟩ := two HI6.out.kC
      obtain ⟨g0, g1, g2, g3⟩ := Chg.facts HI6.out.kG
      rw [hk] at g0
      obtain ⟨n0, n1, n2⟩ := two HI6.out.kN
      obtain ⟨r0, r1, r2⟩ := two HI6.out.kR
      obtain ⟨m0, m1⟩ := Mb.facts kM6.out
      cases his : hasM ms g.id
      · have his := Lib.hid his
        go_wp2_with fail
        rw [store2 HI6.out.kR]
        have hg := setRow_heap w6 (w.heap.size + 1 + 1) _ #[.int .i64 0, .slice none 0 0] 26 (0, 0) HI6.out.kR
        refine bodyPost_ret (res_ct rfl _ _ (w.heap.size + 1 + 1) 26 _ (0, 0) _ rfl hg Tryd.underlying26 rfl size26) rfl ?_
        exact CapPost.bad (by decide) (cfg_7 NB.out N1.out ⟨by omega, his.out⟩) (below_setRow HI6.out.bel (by omega) _)
      have his' := Lib.hid his
      have N7 := Lib.hid (show ¬ (g.kind ≠ 1 ∧ hasM ms g.id = false) from fun h => by rw [his'.out] at h; cases h.2)
      clear his
      cases hot : hasM ms g.mb.id
      case true =>
        have hot := Lib.hid hot
        go_wp2_with fail
        rw [store2 HI6.out.kR]
        have hg := setRow_heap w6 (w.heap.size + 1 + 1) _ #[.int .i64 0, .slice none 0 0] 26 (0, 0) HI6.out.kR
        refine bodyPost_ret (res_ct rfl _ _ (w.heap.size + 1 + 1) 26 _ (0, 0) _ rfl hg Tryd.underlying26 rfl size26) rfl ?_
        exact CapPost.bad (by decide) (cfg_9 NB.out N1.out N7.out ⟨by omega, hot.out⟩) (below_setRow HI6.out.bel (by omega) _)
      have hot' := Lib.hid hot
      have N9 := Lib.hid (show ¬ ((g.kind = 1 ∨ g.kind = 3) ∧ hasM ms g.mb.id = true) from fun h => by rw [hot'.out] at h; cases h.2)
      clear hot
      have N11 := Lib.hid (show ¬ (g.kind = 1 ∧ ms.length = 10) from fun h => by omega)
      have N10 := Lib.hid (show ¬ (g.kind = 2 ∧ ms.length = 1) from fun h => by omega)
      have h0 := Lib.hid (cfg_0 NB.out N1.out N7.out N9.out N11.out N10.out)
      clear N1 N7 N9 N11 N10
      have hfl := findM_lt his'.out
      have hfw : wrap64 ((findM ms g.id : Int) + 1) = (findM ms g.id : Int) + 1 := by simp only [wrap64]; omega
      go_wp2_with fail
      refine (delM_any w.heap.size A' ms.length c' (findM ms g.id) _ (ms.map Mb.cells) w6 HI6.out.own (mb_one ms) (findM_lt his'.out) (by first | rfl | (simp only [wrap64]; omega)) (by omega)).mono ?_
      rintro e w7 ⟨A7, c7, rfl, hc7, ho7, hg7⟩
      clear c0 c1 g0 g1 g2 g3 n0 n1 n2 r0 r1 r2 m0 m1 hy hy1 hy2 hy6
      have hll : ((ms.map Mb.cells).take (findM ms g.id) ++ (ms.map Mb.cells).drop (findM ms g.id + 1)).length = (delMs ms g).length := by rw [delMs_cells ms g (by omega), List.length_map]
      have HI7 := Lib.hid (HI6.out.put hg7 (delMs_cells ms g (by omega)) ho7 hc7)
      rw [hll] at HI7 ⊢
      clear hll
      have kM7 := Lib.hid (blk_grown hg7 kM6.out (by intro e; have := (HI.out.own.base_le _ e).2; omega))
      have hb67 : W3.heap.size ≠ b6 := by have := heap_lt HI.out.kN; omega
      have kM7' := Lib.hid (blk_set_other kM7.out hb67 1 (.slice A7 (delMs ms g).length c7))
      obtain ⟨m0, _⟩ := Mb.facts kM7.out
      have x7 : ¬ W3.heap.size = b6 := hb67
      have x8 : ¬ b6 = W3.heap.size := Ne.symm hb67
      obtain ⟨n0, n1, n2⟩ := two (HI6.out.kept hg7 _ _ HI6.out.kN (by intro cs fz h; cases h))
      obtain ⟨c0, c1, _⟩ := two (HI6.out.kept hg7 _ _ HI6.out.kC (by intro cs fz h; cases h))
      obtain ⟨g0, g1, g2, g3⟩ := Chg.facts (HI6.out.kept hg7 _ _ HI6.out.kG (by intro cs fz h; cases h))
      rw [hk] at g0
      obtain ⟨r0, r1, r2⟩ := two (HI6.out.kept hg7 _ _ HI6.out.kR (by intro cs fz h; cases h))
      have x1 : ¬ b6 = w.heap.size := by have := HI6.out.s6; omega
      have x2 : ¬ b6 = w.heap.size + 1 := by have := HI6.out.s6; omega
      have x3 : ¬ b6 = w.heap.size + 1 + 1 := by have := HI6.out.s6; omega
      have x4 : ¬ w.heap.size = b6 := by have := HI6.out.s6; omega
      have x5 : ¬ w.heap.size + 1 = b6 := by have := HI6.out.s6; omega
      have x6 : ¬ w.heap.size + 1 + 1 = b6 := by have := HI6.out.s6; omega
      go_wp2_with fail
      refine (find_n _ A7 _ (delMs ms g) _ _ _ _ rfl HI7.out.own.rowOf (by have := delMs_le ms g; omega)).mono ?_
      rintro e w8 ⟨rfl, hb8⟩
      clear m0 x7 x8 n0 n1 n2 c0 c1 g0 g1 g2 g3 r0 r1 r2 x1 x2 x3 x4 x5 x6
      have HI8 := Lib.hid (HI7.out.later hb8)
      have kM8 := Lib.hid (blk_later hb8 kM7'.out)
      clear hb8
      have hy : w.heap.size + 1 + 1 < w8.heap.size := heap_lt HI8.out.kR
      have hy1 : w.heap.size + 1 < w8.heap.size := by omega
      have hy2 : w.heap.size < w8.heap.size := by omega
      have hy6 : b6 < w8.heap.size := heap_lt HI8.out.kN
      obtain ⟨c0, c1, _⟩ := two HI8.out.kC
      obtain ⟨g0, g1, g2, g3⟩ := Chg.facts HI8.out.kG
      rw [hk] at g0
      obtain ⟨n0, n1, n2⟩ := two HI8.out.kN
      obtain ⟨r0, r1, r2⟩ := two HI8.out.kR
      obtain ⟨m0, m1⟩ := Mb.facts kM8.out
      go_wp2_with (first | (with_reducible refine loadM rfl 84 _ rfl W3.heap.size 0 rfl 34 _ (Mb.len _) _ m1 Tryd.underlying84 rfl size84 g.mb.arr rfl ?_))
      have hcl : cfgMs ms g = insMs (delMs ms g) g.mb := by rw [cfgMs, if_neg (by omega)]
      refine (insM_any w.heap.size A7 (delMs ms g).length c7 (findM (delMs ms g) g.mb.id) w8.heap.size ((delMs ms g).map Mb.cells) g.mb.cells g.mb.arr _ (HI8.out.own.below ((Below.refl _ _).alloc (Nat.le_refl _) _)) (mb_one (delMs ms g)) (bs_le _ _) (by have := delMs_le ms g; omega)
        (Mb.len _) (fun u hu => Mb.ones _ u hu) rfl (heap_alloc_last _ _) (fun e => Nat.lt_irrefl _ (HI8.out.own.base_le _ e).2) (by rw [World.size_alloc]; omega)).mono ?_
      rintro e w9 ⟨A9, c9, rfl, hc9, ho9, hg9⟩
      clear m0 m1 n0 n1 n2 c0 c1 g0 g1 g2 g3 r0 r1 r2
      have hcc : ((delMs ms g).map Mb.cells).take (findM (delMs ms g) g.mb.id) ++ (g.mb.cells :: ((delMs ms g).map Mb.cells).drop (findM (delMs ms g) g.mb.id)) = (cfgMs ms g).map Mb.cells := by rw [hcl]; exact insMs_cells _ _
      have hll : (((delMs ms g).map Mb.cells).take (findM (delMs ms g) g.mb.id) ++ (g.mb.cells :: ((delMs ms g).map Mb.cells).drop (findM (delMs ms g) g.mb.id))).length = (cfgMs ms g).length := by rw [hcc, List.length_map]
      have HIa := Lib.hid (HI8.out.later (W' := w8.alloc (.cells g.mb.arr 84)) ((Below.refl _ _).alloc (Nat.le_refl _) _))
      have HI9 := Lib.hid (HIa.out.put (ms2 := cfgMs ms g) hg9 hcc ho9 hc9)
      rw [hll] at HI9 ⊢
      clear hll hcc hcl
      obtain ⟨n0, n1, n2⟩ := two (HIa.out.kept hg9 _ _ HIa.out.kN (by intro cs fz h; cases h))
      obtain ⟨c0, c1, _⟩ := two (HIa.out.kept hg9 _ _ HIa.out.kC (by intro cs fz h; cases h))
      obtain ⟨g0, g1, g2, g3⟩ := Chg.facts (HIa.out.kept hg9 _ _ HIa.out.kG (by intro cs fz h; cases h))
      rw [hk] at g0
      obtain ⟨r0, r1, r2⟩ := two (HIa.out.kept hg9 _ _ HIa.out.kR (by intro cs fz h; cases h))
      have x1 : ¬ b6 = w.heap.size := by have := HIa.out.s6; omega
      have x2 : ¬ b6 = w.heap.size + 1 := by have := HIa.out.s6; omega
      have x3 : ¬ b6 = w.heap.size + 1 + 1 := by have := HIa.out.s6; omega
      have x4 : ¬ w.heap.size = b6 := by have := HIa.out.s6; omega
      have x5 : ¬ w.heap.size + 1 = b6 := by have := HIa.out.s6; omega
      have x6 : ¬ w.heap.size + 1 + 1 = b6 := by have := HIa.out.s6; omega
      go_wp2_with fail
      rw [store2 HI9.out.kR]
      have hg := setRow_heap (w9.setCell ⟨b6, 1, none⟩ (.slice A9 (cfgMs ms g).length c9)) (w.heap.size + 1 + 1) _ #[.int .i64 (ep + 1), .slice A9 (cfgMs ms g).length c9] 26 (0, 0) HI9.out.kR
      refine bodyPost_ret (res_ct rfl _ _ (w.heap.size + 1 + 1) 26 _ (0, 0) _ rfl hg Tryd.underlying26 rfl size26) rfl ?_
      exact HI9.out.done h0.out
    · obtain ⟨c0, c1, _⟩ := two HI.out.kC
      obtain ⟨g0, g1, g2, g3⟩ := Chg.facts HI.out.kG
      rw [hk] at g0
      obtain ⟨n0, n1, n2⟩ := two HI.out.kN
      obtain ⟨r0, r1, r2⟩ := two HI.out.kR
      have HBx := Lib.hid (show Below W3.heap.size W3 (W3.alloc (.cells (Mb.mk g.id g.root g.height).arr 84)) from (Below.refl _ _).alloc (Nat.le_refl _) _)
      have hz3 : w.heap.size + 1 + 1 < W3.heap.size := heap_lt HI.out.kR
      have hz31 : w.heap.size + 1 < W3.heap.size := by omega
      have hz32 : w.heap.size < W3.heap.size := by omega
      have hz6 : b6 < W3.heap.size := heap_lt HI.out.kN
      have hgm3 : g.mb = Mb.mk g.id g.root g.height := by rw [Chg.mb, if_neg (by omega)]
      have m1 : (W3.alloc (.cells (Mb.mk g.id g.root g.height).arr 84)).rangeAt W3.heap.size 0 g.mb.cells := by rw [hgm3]; exact newRangeM _ _ _
      go_wp2_with (first
        | (with_reducible refine loadM rfl 50 _ rfl (w.heap.size + 1) 3 rfl 33 _ (nodeC_len _ _) _ g3 Tryd.underlying50 rfl size50 (nodeA g.root g.height) rfl ?_)
        | (refine buildM rfl 84 _ rfl (Mb.mk g.id g.root g.height).arr (built84 _ _ _) ?_)
        | (with_reducible refine storeNew rfl 84 _ _ rfl rfl (Mb.mk g.id g.root g.height).arr rfl 84 _ 34 (Mb.arrSize _) size84 rfl (Mb.ones _) ?_)
        | (with_reducible refine loadM rfl 84 _ rfl W3.heap.size 0 rfl 34 _ (Mb.len _) _ m1 Tryd.underlying84 rfl size84 g.mb.arr rfl ?_))
      have HI3 := Lib.hid (HI.out.later (show Below W3.heap.size W3 (W3.alloc (.cells (Mb.mk g.id g.root g.height).arr 84)) from (Below.refl _ _).alloc (Nat.le_refl _) _))
      have kM3 := Lib.hid (show (W3.alloc (.cells (Mb.mk g.id g.root g.height).arr 84)).heap[W3.heap.size]? = some (.cells g.mb.arr 84 (0, 0)) from by rw [hgm3]; exact heap_alloc_last _ _)
      have hr4 := right_any g.mb
      rw [hgm3] at hr4
      refine (hr4 _).mono ?_
      rintro e w4 ⟨rfl, hb4⟩
      clear hr4 c0 c1 g0 g1 g2 g3 n0 n1 n2 r0 r1 r2 m1 hz3 hz31 hz32 hz6 HBx
      rw [← hgm3]
      have HGM := Lib.hid hgm3
      clear hgm3
      have HI4 := Lib.hid (HI3.out.later hb4)
      have kM4 := Lib.hid (blk_later hb4 kM3.out)
      clear hb4
      have hy : w.heap.size + 1 + 1 < w4.heap.size := heap_lt HI4.out.kR
      have hy1 : w.heap.size + 1 < w4.heap.size := by omega
      have hy2 : w.heap.size < w4.heap.size := by omega
      have hy6 : b6 < w4.heap.size := heap_lt HI4.out.kN
      obtain ⟨c0, c1, _⟩ := two HI4.out.kC
      obtain ⟨g0, g1, g2, g3⟩ := Chg.facts HI4.out.kG
      rw [hk] at g0
      obtain ⟨n0, n1, n2⟩ := two HI4.out.kN
      obtain ⟨r0, r1, r2⟩ := two HI4.out.kR
      obtain ⟨m0, m1⟩ := Mb.facts kM4.out
      cases hrt : rightM g.mb
      · have hrt := Lib.hid hrt
        go_wp2_with fail
        rw [store2 HI4.out.kR]
        have hg := setRow_heap w4 (w.heap.size + 1 + 1) _ #[.int .i64 0, .slice none 0 0] 26 (0, 0) HI4.out.kR
        refine bodyPost_ret (res_ct rfl _ _ (w.heap.size + 1 + 1) 26 _ (0, 0) _ rfl hg Tryd.underlying26 rfl size26) rfl ?_
        exact CapPost.bad (by decide) (cfg_1 NB.out ⟨by omega, hrt.out⟩) (below_setRow HI4.out.bel (by omega) _)
      have hrt' := Lib.hid hrt
      have N1 := Lib.hid (show ¬ (g.kind ≠ 2 ∧ rightM g.mb = false) from fun h => by rw [hrt'.out] at h; cases h.2)
      clear hrt
      go_wp2_with fail
      refine (find_n T A n ms _ _ _ _ HN.out (HR.out.below HI4.out.bel) hb).mono ?_
      rintro e w5 ⟨rfl, hb5⟩
      clear c0 c1 g0 g1 g2 g3 n0 n1 n2 r0 r1 r2 m0 m1 hy hy1 hy2 hy6
      have HI5 := Lib.hid (HI4.out.later hb5)
      have kM5 := Lib.hid (blk_later hb5 kM4.out)
      clear hb5
      have hy : w.heap.size + 1 + 1 < w5.heap.size := heap_lt HI5.out.kR
      have hy1 : w.heap.size + 1 < w5.heap.size := by omega
      have hy2 : w.heap.size < w5.heap.size := by omega
      have hy6 : b6 < w5.heap.size := heap_lt HI5.out.kN
      obtain ⟨c0, c1, _⟩ := two HI5.out.kC
      obtain ⟨g0, g1, g2, g3⟩ := Chg.facts HI5.out.kG
      rw [hk] at g0
      obtain ⟨n0, n1, n2⟩ := two HI5.out.kN
      obtain ⟨r0, r1, r2⟩ := two HI5.out.kR
      obtain ⟨m0, m1⟩ := Mb.facts kM5.out
      go_wp2_with fail
      refine (find_n T A n ms _ _ _ _ HN.out (HR.out.below HI5.out.bel) hb).mono ?_
      rintro e w6 ⟨rfl, hb6⟩
      clear c0 c1 g0 g1 g2 g3 n0 n1 n2 r0 r1 r2 m0 m1 hy hy1 hy2 hy6
      have HI6 := Lib.hid (HI5.out.later hb6)
      have kM6 := Lib.hid (blk_later hb6 kM5.out)
      clear hb6
      have hy : w.heap.size + 1 + 1 < w6.heap.size := heap_lt HI6.out.kR
      have hy1 : w.heap.size + 1 < w6.heap.size := by omega
      have hy2 : w.heap.size < w6.heap.size := by omega
      have hy6 : b6 < w6.heap.size := heap_lt HI6.out.kN
      obtain ⟨c0, c1, _⟩ := two HI6.out.kC
      obtain ⟨g0, g1, g2, g3⟩ := Chg.facts HI6.out.kG
      rw [hk] at g0
      obtain ⟨n0, n1, n2⟩ := two HI6.out.kN
      obtain ⟨r0, r1, r2⟩ := two HI6.out.kR
      obtain ⟨m0, m1⟩ := Mb.facts kM6.out
      cases his : hasM ms g.id
      · have his := Lib.hid his
        go_wp2_with fail
        rw [store2 HI6.out.kR]
        have hg := setRow_heap w6 (w.heap.size + 1 + 1) _ #[.int .i64 0, .slice none 0 0] 26 (0, 0) HI6.out.kR
        refine bodyPost_ret (res_ct rfl _ _ (w.heap.size + 1 + 1) 26 _ (0, 0) _ rfl hg Tryd.underlying26 rfl size26) rfl ?_
        exact CapPost.bad (by decide) (cfg_7 NB.out N1.out ⟨by omega, his.out⟩) (below_setRow HI6.out.bel (by omega) _)
      have his' := Lib.hid his
      have N7 := Lib.hid (show ¬ (g.kind ≠ 1 ∧ hasM ms g.id = false) from fun h => by rw [his'.out] at h; cases h.2)
      clear his
      have N9 := Lib.hid (show ¬ ((g.kind = 1 ∨ g.kind = 3) ∧ hasM ms g.mb.id = true) from fun h => by omega)
      have N11 := Lib.hid (show ¬ (g.kind = 1 ∧ ms.length = 10) from fun h => by omega)
      have N10 := Lib.hid (show ¬ (g.kind = 2 ∧ ms.length = 1) from fun h => by omega)
      have h0 := Lib.hid (cfg_0 NB.out N1.out N7.out N9.out N11.out N10.out)
      clear N1 N7 N9 N11 N10
      have hfl := findM_lt his'.out
      have hfw : wrap64 ((findM ms g.id : Int) + 1) = (findM ms g.id : Int) + 1 := by simp only [wrap64]; omega
      go_wp2_with fail
      refine (delM_any w.heap.size A' ms.length c' (findM ms g.id) _ (ms.map Mb.cells) w6 HI6.out.own (mb_one ms) (findM_lt his'.out) (by first | rfl | (simp only [wrap64]; omega)) (by omega)).mono ?_
      rintro e w7 ⟨A7, c7, rfl, hc7, ho7, hg7⟩
      clear c0 c1 g0 g1 g2 g3 n0 n1 n2 r0 r1 r2 m0 m1 hy hy1 hy2 hy6
      have hll : ((ms.map Mb.cells).take (findM ms g.id) ++ (ms.map Mb.cells).drop (findM ms g.id + 1)).length = (delMs ms g).length := by rw [delMs_cells ms g (by omega), List.length_map]
      have HI7 := Lib.hid (HI6.out.put hg7 (delMs_cells ms g (by omega)) ho7 hc7)
      rw [hll] at HI7 ⊢
      clear hll
      have kM7 := Lib.hid (blk_grown hg7 kM6.out (by intro e; have := (HI.out.own.base_le _ e).2; omega))
      have hb67 : W3.heap.size ≠ b6 := by have := heap_lt HI.out.kN; omega
      have kM7' := Lib.hid (blk_set_other kM7.out hb67 1 (.slice A7 (delMs ms g).length c7))
      obtain ⟨m0, _⟩ := Mb.facts kM7.out
      have x7 : ¬ W3.heap.size = b6 := hb67
      have x8 : ¬ b6 = W3.heap.size := Ne.symm hb67
      obtain ⟨n0, n1, n2⟩ := two (HI6.out.kept hg7 _ _ HI6.out.kN (by intro cs fz h; cases h))
      obtain ⟨c0, c1, _⟩ := two (HI6.out.kept hg7 _ _ HI6.out.kC (by intro cs fz h; cases h))
      obtain ⟨g0, g1, g2, g3⟩ := Chg.facts (HI6.out.kept hg7 _ _ HI6.out.kG (by intro cs fz h; cases h))
      rw [hk] at g0
      obtain ⟨r0, r1, r2⟩ := two (HI6.out.kept hg7 _ _ HI6.out.kR (by intro cs fz h; cases h))
      have x1 : ¬ b6 = w.heap.size := by have := HI6.out.s6; omega
      have x2 : ¬ b6 = w.heap.size + 1 := by have := HI6.out.s6; omega
      have x3 : ¬ b6 = w.heap.size + 1 + 1 := by have := HI6.out.s6; omega
      have x4 : ¬ w.heap.size = b6 := by have := HI6.out.s6; omega
      have x5 : ¬ w.heap.size + 1 = b6 := by have := HI6.out.s6; omega
      have x6 : ¬ w.heap.size + 1 + 1 = b6 := by have := HI6.out.s6; omega
      go_wp2_with fail
      refine (find_n _ A7 _ (delMs ms g) _ _ _ _ rfl HI7.out.own.rowOf (by have := delMs_le ms g; omega)).mono ?_
      rintro e w8 ⟨rfl, hb8⟩
      clear m0 x7 x8 n0 n1 n2 c0 c1 g0 g1 g2 g3 r0 r1 r2 x1 x2 x3 x4 x5 x6
      have HI8 := Lib.hid (HI7.out.later hb8)
      have kM8 := Lib.hid (blk_later hb8 kM7'.out)
      clear hb8
      have hy : w.heap.size + 1 + 1 < w8.heap.size := heap_lt HI8.out.kR
      have hy1 : w.heap.size + 1 < w8.heap.size := by omega
      have hy2 : w.heap.size < w8.heap.size := by omega
      have hy6 : b6 < w8.heap.size := heap_lt HI8.out.kN
      obtain ⟨c0, c1, _⟩ := two HI8.out.kC
      obtain ⟨g0, g1, g2, g3⟩ := Chg.facts HI8.out.kG
      rw [hk] at g0
      obtain ⟨n0, n1, n2⟩ := two HI8.out.kN
      obtain ⟨r0, r1, r2⟩ := two HI8.out.kR
      obtain ⟨m0, m1⟩ := Mb.facts kM8.out
      go_wp2_with (first | (with_reducible refine loadM rfl 84 _ rfl W3.heap.size 0 rfl 34 _ (Mb.len _) _ m1 Tryd.underlying84 rfl size84 g.mb.arr rfl ?_))
      have hcl : cfgMs ms g = insMs (delMs ms g) g.mb := by rw [cfgMs, if_neg (by omega)]
      refine (insM_any w.heap.size A7 (delMs ms g).length c7 (findM (delMs ms g) g.mb.id) w8.heap.size ((delMs ms g).map Mb.cells) g.mb.cells g.mb.arr _ (HI8.out.own.below ((Below.refl _ _).alloc (Nat.le_refl _) _)) (mb_one (delMs ms g)) (bs_le _ _) (by have := delMs_le ms g; omega)
        (Mb.len _) (fun u hu => Mb.ones _ u hu) rfl (heap_alloc_last _ _) (fun e => Nat.lt_irrefl _ (HI8.out.own.base_le _ e).2) (by rw [World.size_alloc]; omega)).mono ?_
      rintro e w9 ⟨A9, c9, rfl, hc9, ho9, hg9⟩
      clear m0 m1 n0 n1 n2 c0 c1 g0 g1 g2 g3 r0 r1 r2
      have hcc : ((delMs ms g).map Mb.cells).take (findM (delMs ms g) g.mb.id) ++ (g.mb.cells :: ((delMs ms g).map Mb.cells).drop (findM (delMs ms g) g.mb.id)) = (cfgMs ms g).map Mb.cells := by rw [hcl]; exact insMs_cells _ _
      have hll : (((delMs ms g).map Mb.cells).take (findM (delMs ms g) g.mb.id) ++ (g.mb.cells :: ((delMs ms g).map Mb.cells).drop (findM (delMs ms g) g.mb.id))).length = (cfgMs ms g).length := by rw [hcc, List.length_map]
      have HIa := Lib.hid (HI8.out.later (W' := w8.alloc (.cells g.mb.arr 84)) ((Below.refl _ _).alloc (Nat.le_refl _) _))
      have HI9 := Lib.hid (HIa.out.put (ms2 := cfgMs ms g) hg9 hcc ho9 hc9)
      rw [hll] at HI9 ⊢
      clear hll hcc hcl
      obtain ⟨n0, n1, n2⟩ := two (HIa.out.kept hg9 _ _ HIa.out.kN (by intro cs fz h; cases h))
      obtain ⟨c0, c1, _⟩ := two (HIa.out.kept hg9 _ _ HIa.out.kC (by intro cs fz h; cases h))
      obtain ⟨g0, g1, g2, g3⟩ := Chg.facts (HIa.out.kept hg9 _ _ HIa.out.kG (by intro cs fz h; cases h))
      rw [hk] at g0
      obtain ⟨r0, r1, r2⟩ := two (HIa.out.kept hg9 _ _ HIa.out.kR (by intro cs fz h; cases h))
      have x1 : ¬ b6 = w.heap.size := by have := HIa.out.s6; omega
      have x2 : ¬ b6 = w.heap.size + 1 := by have := HIa.out.s6; omega
      have x3 : ¬ b6 = w.heap.size + 1 + 1 := by have := HIa.out.s6; omega
      have x4 : ¬ w.heap.size = b6 := by have := HIa.out.s6; omega
      have x5 : ¬ w.heap.size + 1 = b6 := by have := HIa.out.s6; omega
      have x6 : ¬ w.heap.size + 1 + 1 = b6 := by have := HIa.out.s6; omega
      go_wp2_with fail
      rw [store2 HI9.out.kR]
      have hg := setRow_heap (w9.setCell ⟨b6, 1, none⟩ (.slice A9 (cfgMs ms g).length c9)) (w.heap.size + 1 + 1) _ #[.int .i64 (ep + 1), .slice A9 (cfgMs ms g).length c9] 26 (0, 0) HI9.out.kR
      refine bodyPost_ret (res_ct rfl _ _ (w.heap.size + 1 + 1) 26 _ (0, 0) _ rfl hg Tryd.underlying26 rfl size26) rfl ?_
      exact HI9.out.done h0.out
  · rw [store2 kN]
    obtain ⟨W3, hW3⟩ : ∃ W3, W3 = w2.setRow w1.heap.size #[.int .i64 (ep + 1), .slice A' ms.length c'] := ⟨_, rfl⟩
    obtain ⟨b6, hb6⟩ : ∃ b6, b6 = w1.heap.size := ⟨_, rfl⟩
    have HI := Lib.hid (show CapI W3 w ep A n c g b6 ms A' c' from by
      have hlo : w1.heap.size < w2.heap.size := by have := HB2.out.size; simp only [World.size_alloc, World.size_drew] at this; omega
      have hb3 := HB2.out
      have ho := HO.out
      rw [List.length_map] at ho hlc
      rw [hW3, hb6]
      exact ⟨(setRow_other _ _ _ _ (by omega)).trans (blk_later hb3 (at_up kC.out _)), (setRow_other _ _ _ _ (by omega)).trans (blk_later hb3 (at_up kG.out _)),
        (setRow_other _ _ _ _ (by omega)).trans (blk_later hb3 (at_up kR.out _)), setRow_heap _ _ _ _ _ _ kN,
        (ho.lower (by simp only [World.size_alloc, World.size_drew]; omega)).other kN (by decide) fun k hk => setRow_other _ _ _ _ hk, hlc,
        below_setRow ((hB.out.drew.alloc (by simp only [World.size_drew]; omega) _).trans (hb3.mono (by simp only [World.size_alloc, World.size_drew]; omega))) (by omega) _, hz1⟩)
    rw [← hW3, ← hb6]
    clear hW3 hb6 HB2 HO k0 k1 hlc q0 q1 kC kG kR hn1 hn2 hepk hepw
    rcases hkinds with hk | hk | hk | hk
    · obtain ⟨c0, c1, _⟩ := two HI.out.kC
      obtain ⟨g0, g1, g2, g3⟩ := Chg.facts HI.out.kG
      rw [hk] at g0
      obtain ⟨n0, n1, n2⟩ := two HI.out.kN
      obtain ⟨r0, r1, r2⟩ := two HI.out.kR
      have HBx := Lib.hid (show Below W3.heap.size W3 (W3.alloc (.cells (Mb.mk g.id g.root g.height).arr 84)) from (Below.refl _ _).alloc (Nat.le_refl _) _)
      have hz3 : w.heap.size + 1 + 1 < W3.heap.size := heap_lt HI.out.kR
      have hz31 : w.heap.size + 1 < W3.heap.size := by omega
      have hz32 : w.heap.size < W3.heap.size := by omega
      have hz6 : b6 < W3.heap.size := heap_lt HI.out.kN
      have hgm3 : g.mb = Mb.mk g.id g.root g.height := by rw [Chg.mb, if_neg (by omega)]
      have m1 : (W3.alloc (.cells (Mb.mk g.id g.root g.height).arr 84)).rangeAt W3.heap.size 0 g.mb.cells := by rw [hgm3]; exact newRangeM _ _ _
      go_wp2_with (first
        | (with_reducible refine loadM rfl 50 _ rfl (w.heap.size + 1) 3 rfl 33 _ (nodeC_len _ _) _ g3 Tryd.underlying50 rfl size50 (nodeA g.root g.height) rfl ?_)
        | (refine buildM rfl 84 _ rfl (Mb.mk g.id g.root g.height).arr (built84 _ _ _) ?_)
        | (with_reducible refine storeNew rfl 84 _ _ rfl rfl (Mb.mk g.id g.root g.height).arr rfl 84 _ 34 (Mb.arrSize _) size84 rfl (Mb.ones _) ?_)
        | (with_reducible refine loadM rfl 84 _ rfl W3.heap.size 0 rfl 34 _ (Mb.len _) _ m1 Tryd.underlying84 rfl size84 g.mb.arr rfl ?_))
      have HI3 := Lib.hid (HI.out.later (show Below W3.heap.size W3 (W3.alloc (.cells (Mb.mk g.id g.root g.height).arr 84)) from (Below.refl _ _).alloc (Nat.le_refl _) _))
      have kM3 := Lib.hid (show (W3.alloc (.cells (Mb.mk g.id g.root g.height).arr 84)).heap[W3.heap.size]? = some (.cells g.mb.arr 84 (0, 0)) from by rw [hgm3]; exact heap_alloc_last _ _)
      have hr4 := right_any g.mb
      rw [hgm3] at hr4
      refine (hr4 _).mono ?_
      rintro e w4 ⟨rfl, hb4⟩
      clear hr4 c0 c1 g0 g1 g2 g3 n0 n1 n2 r0 r1 r2 m1 hz3 hz31 hz32 hz6 HBx
      rw [← hgm3]
      have HGM := Lib.hid hgm3
      clear hgm3
      have HI4 := Lib.hid (HI3.out.later hb4)
      have kM4 := Lib.hid (blk_later hb4 kM3.out)
      clear hb4
      have hy : w.heap.size + 1 + 1 < w4.heap.size := heap_lt HI4.out.kR
      have hy1 : w.heap.size + 1 < w4.heap.size := by omega
      have hy2 : w.heap.size < w4.heap.size := by omega
      have hy6 : b6 < w4.heap.size := heap_lt HI4.out.kN
      obtain ⟨c0, c1, _⟩ := two HI4.out.kC
      obtain ⟨g0, g1, g2, g3⟩ := Chg.facts HI4.out.kG
      rw [hk] at g0
      obtain ⟨n0, n1, n2⟩ := two HI4.out.kN
      obtain ⟨r0, r1, r2⟩ := two HI4.out.kR
      obtain ⟨m0, m1⟩ := Mb.facts kM4.out
      cases hrt : rightM g.mb
      · have hrt := Lib.hid hrt
        go_wp2_with fail
        rw [store2 HI4.out.kR]
        have hg := setRow_heap w4 (w.heap.size + 1 + 1) _ #[.int .i64 0, .slice none 0 0] 26 (0, 0) HI4.out.kR
        refine bodyPost_ret (res_ct rfl _ _ (w.heap.size + 1 + 1) 26 _ (0, 0) _ rfl hg Tryd.underlying26 rfl size26) rfl ?_
        exact CapPost.bad (by decide) (cfg_1 NB.out ⟨by omega, hrt.out⟩) (below_setRow HI4.out.bel (by omega) _)
      have hrt' := Lib.hid hrt
      have N1 := Lib.hid (show ¬ (g.kind ≠ 2 ∧ rightM g.mb = false) from fun h => by rw [hrt'.out] at h; cases h.2)
      clear hrt
      go_wp2_with fail
      refine (find_n T A n ms _ _ _ _ HN.out (HR.out.below HI4.out.bel) hb).mono ?_
      rintro e w5 ⟨rfl, hb5⟩
      clear c0 c1 g0 g1 g2 g3 n0 n1 n2 r0 r1 r2 m0 m1 hy hy1 hy2 hy6
      have HI5 := Lib.hid (HI4.out.later hb5)
      have kM5 := Lib.hid (blk_later hb5 kM4.out)
      clear hb5
      have hy : w.heap.size + 1 + 1 < w5.heap.size := heap_lt HI5.out.kR
      have hy1 : w.heap.size + 1 < w5.heap.size := by omega
      have hy2 : w.heap.size < w5.heap.size := by omega
      have hy6 : b6 < w5.heap.size := heap_lt HI5.out.kN
      obtain ⟨c0, c1, _⟩ := two HI5.out.kC
      obtain ⟨g0, g1, g2, g3⟩ := Chg.facts HI5.out.kG
      rw [hk] at g0
      obtain ⟨n0, n1, n2⟩ := two HI5.out.kN
      obtain ⟨r0, r1, r2⟩ := two HI5.out.kR
      obtain ⟨m0, m1⟩ := Mb.facts kM5.out
      go_wp2_with fail
      refine (find_n T A n ms _ _ _ _ HN.out (HR.out.below HI5.out.bel) hb).mono ?_
      rintro e w6 ⟨rfl, hb6⟩
      clear c0 c1 g0 g1 g2 g3 n0 n1 n2 r0 r1 r2 m0 m1 hy hy1 hy2 hy6
      have HI6 := Lib.hid (HI5.out.later hb6)
      have kM6 := Lib.hid (blk_later hb6 kM5.out)
      clear hb6
      have hy : w.heap.size + 1 + 1 < w6.heap.size := heap_lt HI6.out.kR
      have hy1 : w.heap.size + 1 < w6.heap.size := by omega
      have hy2 : w.heap.size < w6.heap.size := by omega
      have hy6 : b6 < w6.heap.size := heap_lt HI6.out.kN
      obtain ⟨c0, c1, _⟩ := two HI6.out.kC
      obtain ⟨g0, g1, g2, g3⟩ := Chg.facts HI6.out.kG
      rw [hk] at g0
      obtain ⟨n0, n1, n2⟩ := two HI6.out.kN
      obtain ⟨r0, r1, r2⟩ := two HI6.out.kR
      obtain ⟨m0, m1⟩ := Mb.facts kM6.out
      have N7 := Lib.hid (show ¬ (g.kind ≠ 1 ∧ hasM ms g.id = false) from fun h => h.1 hk)
      cases hot : hasM ms g.mb.id
      case true =>
        have hot := Lib.hid hot
        go_wp2_with fail
        rw [store2 HI6.out.kR]
        have hg := setRow_heap w6 (w.heap.size + 1 + 1) _ #[.int .i64 0, .slice none 0 0] 26 (0, 0) HI6.out.kR
        refine bodyPost_ret (res_ct rfl _ _ (w.heap.size + 1 + 1) 26 _ (0, 0) _ rfl hg Tryd.underlying26 rfl size26) rfl ?_
        exact CapPost.bad (by decide) (cfg_9 NB.out N1.out N7.out ⟨by omega, hot.out⟩) (below_setRow HI6.out.bel (by omega) _)
      have hot' := Lib.hid hot
      have N9 := Lib.hid (show ¬ ((g.kind = 1 ∨ g.kind = 3) ∧ hasM ms g.mb.id = true) from fun h => by rw [hot'.out] at h; cases h.2)
      clear hot
      by_cases hlen : n = 10
      · have hlen1 : (n : Int) = 10 := by omega
        go_wp2_with fail
        rw [store2 HI6.out.kR]
        have hg := setRow_heap w6 (w.heap.size + 1 + 1) _ #[.int .i64 0, .slice none 0 0] 26 (0, 0) HI6.out.kR
        refine bodyPost_ret (res_ct rfl _ _ (w.heap.size + 1 + 1) 26 _ (0, 0) _ rfl hg Tryd.underlying26 rfl size26) rfl ?_
        exact CapPost.bad (by decide) (cfg_11 NB.out N1.out N7.out N9.out ⟨hk, by rw [HN.out]; exact hlen⟩) (below_setRow HI6.out.bel (by omega) _)
      have hlen1 : ¬ (n : Int) = 10 := by omega
      have N11 := Lib.hid (show ¬ (g.kind = 1 ∧ ms.length = 10) from fun h => hlen (HN.out.symm.trans h.2))
      have N10 := Lib.hid (show ¬ (g.kind = 2 ∧ ms.length = 1) from fun h => by omega)
      have h0 := Lib.hid (cfg_0 NB.out N1.out N7.out N9.out N11.out N10.out)
      clear N1 N7 N9 N11 N10
      go_wp2_with fail
      refine (find_n _ A' _ ms _ _ _ _ rfl HI6.out.own.rowOf hb).mono ?_
      rintro e w8 ⟨rfl, hb8⟩
      clear c0 c1 g0 g1 g2 g3 n0 n1 n2 r0 r1 r2 m0 m1 hy hy1 hy2 hy6
      have HI8 := Lib.hid (HI6.out.later hb8)
      have kM8 := Lib.hid (blk_later hb8 kM6.out)
      clear hb8
      have hy : w.heap.size + 1 + 1 < w8.heap.size := heap_lt HI8.out.kR
      have hy1 : w.heap.size + 1 < w8.heap.size := by omega
      have hy2 : w.heap.size < w8.heap.size := by omega
      have hy6 : b6 < w8.heap.size := heap_lt HI8.out.kN
      obtain ⟨c0, c1, _⟩ := two HI8.out.kC
      obtain ⟨g0, g1, g2, g3⟩ := Chg.facts HI8.out.kG
      rw [hk] at g0
      obtain ⟨n0, n1, n2⟩ := two HI8.out.kN
      obtain ⟨r0, r1, r2⟩ := two HI8.out.kR
      obtain ⟨m0, m1⟩ := Mb.facts kM8.out
      go_wp2_with (first | (with_reducible refine loadM rfl 84 _ rfl W3.heap.size 0 rfl 34 _ (Mb.len _) _ m1 Tryd.underlying84 rfl size84 g.mb.arr rfl ?_))
      have hcl : cfgMs ms g = insMs ms g.mb := by rw [cfgMs, if_neg (by omega), delMs, if_pos hk]
      refine (insM_any w.heap.size A' ms.length c' (findM ms g.mb.id) w8.heap.size (ms.map Mb.cells) g.mb.cells g.mb.arr _ (HI8.out.own.below ((Below.refl _ _).alloc (Nat.le_refl _) _)) (mb_one ms) (bs_le _ _) (by have := delMs_le ms g; omega)
        (Mb.len _) (fun u hu => Mb.ones _ u hu) rfl (heap_alloc_last _ _) (fun e => Nat.lt_irrefl _ (HI8.out.own.base_le _ e).2) (by rw [World.size_alloc]; omega)).mono ?_
      rintro e w9 ⟨A9, c9, rfl, hc9, ho9, hg9⟩
      clear m0 m1 n0 n1 n2 c0 c1 g0 g1 g2 g3 r0 r1 r2
      have hcc : (ms.map Mb.cells).take (findM ms g.mb.id) ++ (g.mb.cells :: (ms.map Mb.cells).drop (findM ms g.mb.id)) = (cfgMs ms g).map Mb.cells := by rw [hcl]; exact insMs_cells _ _
      have hll : ((ms.map Mb.cells).take (findM ms g.mb.id) ++ (g.mb.cells :: (ms.map Mb.cells).drop (findM ms g.mb.id))).length = (cfgMs ms g).length := by rw [hcc, List.length_map]
      have HIa := Lib.hid (HI8.out.later (W' := w8.alloc (.cells g.mb.arr 84)) ((Below.refl _ _).alloc (Nat.le_refl _) _))
      have HI9 := Lib.hid (HIa.out.put (ms2 := cfgMs ms g) hg9 hcc ho9 hc9)
      rw [hll] at HI9 ⊢
      clear hll hcc hcl
      obtain ⟨n0, n1, n2⟩ := two (HIa.out.kept hg9 _ _ HIa.out.kN (by intro cs fz h; cases h))
      obtain ⟨c0, c1, _⟩ := two (HIa.out.kept hg9 _ _ HIa.out.kC (by intro cs fz h; cases h))
      obtain ⟨g0, g1, g2, g3⟩ := Chg.facts (HIa.out.kept hg9 _ _ HIa.out.kG (by intro cs fz h; cases h))
      rw [hk] at g0
      obtain ⟨r0, r1, r2⟩ := two (HIa.out.kept hg9 _ _ HIa.out.kR (by intro cs fz h; cases h))
      have x1 : ¬ b6 = w.heap.size := by have := HIa.out.s6; omega
      have x2 : ¬ b6 = w.heap.size + 1 := by have := HIa.out.s6; omega
      have x3 : ¬ b6 = w.heap.size + 1 + 1 := by have := HIa.out.s6; omega
      have x4 : ¬ w.heap.size = b6 := by have := HIa.out.s6; omega
      have x5 : ¬ w.heap.size + 1 = b6 := by have := HIa.out.s6; omega
      have x6 : ¬ w.heap.size + 1 + 1 = b6 := by have := HIa.out.s6; omega
      go_wp2_with fail
      rw [store2 HI9.out.kR]
      have hg := setRow_heap (w9.setCell ⟨b6, 1, none⟩ (.slice A9 (cfgMs ms g).length c9)) (w.heap.size + 1 + 1) _ #[.int .i64 (ep + 1), .slice A9 (cfgMs ms g).length c9] 26 (0, 0) HI9.out.kR
      refine bodyPost_ret (res_ct rfl _ _ (w.heap.size + 1 + 1) 26 _ (0, 0) _ rfl hg Tryd.underlying26 rfl size26) rfl ?_
      exact HI9.out.done h0.out
    · obtain ⟨c0, c1, _⟩ := two HI.out.kC
      obtain ⟨g0, g1, g2, g3⟩ := Chg.facts HI.out.kG
      rw [hk] at g0
      obtain ⟨n0, n1, n2⟩ := two HI.out.kN
      obtain ⟨r0, r1, r2⟩ := two HI.out.kR
      have HBx := Lib.hid (show Below W3.heap.size W3 (W3.alloc (.cells (Mb.mk g.id g.root g.height).arr 84)) from (Below.refl _ _).alloc (Nat.le_refl _) _)
      have hz3 : w.heap.size + 1 + 1 < W3.heap.size := heap_lt HI.out.kR
      have hz31 : w.heap.size + 1 < W3.heap.size := by omega
      have hz32 : w.heap.size < W3.heap.size := by omega
      have hz6 : b6 < W3.heap.size := heap_lt HI.out.kN
      have hgm3 : g.mb = Mb.mk g.id g.root g.height := by rw [Chg.mb, if_neg (by omega)]
      have m1 : (W3.alloc (.cells (Mb.mk g.id g.root g.height).arr 84)).rangeAt W3.heap.size 0 g.mb.cells := by rw [hgm3]; exact newRangeM _ _ _
      go_wp2_with (first
        | (with_reducible refine loadM rfl 50 _ rfl (w.heap.size + 1) 3 rfl 33 _ (nodeC_len _ _) _ g3 Tryd.underlying50 rfl size50 (nodeA g.root g.height) rfl ?_)
        | (refine buildM rfl 84 _ rfl (Mb.mk g.id g.root g.height).arr (built84 _ _ _) ?_)
        | (with_reducible refine storeNew rfl 84 _ _ rfl rfl (Mb.mk g.id g.root g.height).arr rfl 84 _ 34 (Mb.arrSize _) size84 rfl (Mb.ones _) ?_)
        | (with_reducible refine loadM rfl 84 _ rfl W3.heap.size 0 rfl 34 _ (Mb.len _) _ m1 Tryd.underlying84 rfl size84 g.mb.arr rfl ?_))
      have HI3 := Lib.hid (HI.out.later (show Below W3.heap.size W3 (W3.alloc (.cells (Mb.mk g.id g.root g.height).arr 84)) from (Below.refl _ _).alloc (Nat.le_refl _) _))
      have kM3 := Lib.hid (show (W3.alloc (.cells (Mb.mk g.id g.root g.height).arr 84)).heap[W3.heap.size]? = some (.cells g.mb.arr 84 (0, 0)) from by rw [hgm3]; exact heap_alloc_last _ _)
      have N1 := Lib.hid (show ¬ (g.kind ≠ 2 ∧ rightM g.mb = false) from fun h => h.1 hk)
      have HGM := Lib.hid hgm3
      clear hgm3
      refine (find_n T A n ms _ _ _ _ HN.out (HR.out.below HI3.out.bel) hb).mono ?_
      rintro e w5 ⟨rfl, hb5⟩
      clear c0 c1 g0 g1 g2 g3 n0 n1 n2 r0 r1 r2 m1 hz3 hz31 hz32 hz6 HBx
      have HI5 := Lib.hid (HI3.out.later hb5)
      have kM5 := Lib.hid (blk_later hb5 kM3.out)
      clear hb5
      have hy : w.heap.size + 1 + 1 < w5.heap.size := heap_lt HI5.out.kR
      have hy1 : w.heap.size + 1 < w5.heap.size := by omega
      have hy2 : w.heap.size < w5.heap.size := by omega
      have hy6 : b6 < w5.heap.size := heap_lt HI5.out.kN
      obtain ⟨c0, c1, _⟩ := two HI5.out.kC
      obtain ⟨g0, g1, g2, g3⟩ := Chg.facts HI5.out.kG
      rw [hk] at g0
      obtain ⟨n0, n1, n2⟩ := two HI5.out.kN
      obtain ⟨r0, r1, r2⟩ := two HI5.out.kR
      obtain ⟨m0, m1⟩ := Mb.facts kM5.out
      go_wp2_with fail
      refine (find_n T A n ms _ _ _ _ HN.out (HR.out.below HI5.out.bel) hb).mono ?_
      rintro e w6 ⟨rfl, hb6⟩
      clear c0 c1 g0 g1 g2 g3 n0 n1 n2 r0 r1 r2 m0 m1 hy hy1 hy2 hy6
      have HI6 := Lib.hid (HI5.out.later hb6)
      have kM6 := Lib.hid (blk_later hb6 kM5.out)
      clear hb6
      have hy : w.heap.size + 1 + 1 < w6.heap.size := heap_lt HI6.out.kR
      have hy1 : w.heap.size + 1 < w6.heap.size := by omega
      have hy2 : w.heap.size < w6.heap.size := by omega
      have hy6 : b6 < w6.heap.size := heap_lt HI6.out.kN
      obtain ⟨c0, c1, _⟩ := two HI6.out.kC
      obtain ⟨g0, g1, g2, g3⟩ := Chg.facts HI6.out.kG
      rw [hk] at g0
      obtain ⟨n0, n1, n2⟩ := two HI6.out.kN
      obtain ⟨r0, r1, r2⟩ := two HI6.out.kR
      obtain ⟨m0, m1⟩ := Mb.facts kM6.out
      cases his : hasM ms g.id
      · have his := Lib.hid his
        go_wp2_with fail
        rw [store2 HI6.out.kR]
        have hg := setRow_heap w6 (w.heap.size + 1 + 1) _ #[.int .i64 0, .slice none 0 0] 26 (0, 0) HI6.out.kR
        refine bodyPost_ret (res_ct rfl _ _ (w.heap.size + 1 + 1) 26 _ (0, 0) _ rfl hg Tryd.underlying26 rfl size26) rfl ?_
        exact CapPost.bad (by decide) (cfg_7 NB.out N1.out ⟨by omega, his.out⟩) (below_setRow HI6.out.bel (by omega) _)
      have his' := Lib.hid his
      have N7 := Lib.hid (show ¬ (g.kind ≠ 1 ∧ hasM ms g.id = false) from fun h => by rw [his'.out] at h; cases h.2)
      clear his
      have N9 := Lib.hid (show ¬ ((g.kind = 1 ∨ g.kind = 3) ∧ hasM ms g.mb.id = true) from fun h => by omega)
      have N11 := Lib.hid (show ¬ (g.kind = 1 ∧ ms.length = 10) from fun h => by omega)
      by_cases hlen : n = 1
      · have hlen1 : (n : Int) = 1 := by omega
        go_wp2_with fail
        rw [store2 HI6.out.kR]
        have hg := setRow_heap w6 (w.heap.size + 1 + 1) _ #[.int .i64 0, .slice none 0 0] 26 (0, 0) HI6.out.kR
        refine bodyPost_ret (res_ct rfl _ _ (w.heap.size + 1 + 1) 26 _ (0, 0) _ rfl hg Tryd.underlying26 rfl size26) rfl ?_
        exact CapPost.bad (by decide) (cfg_10 NB.out N1.out N7.out N9.out N11.out ⟨hk, by rw [HN.out]; exact hlen⟩) (below_setRow HI6.out.bel (by omega) _)
      have hlen1 : ¬ (n : Int) = 1 := by omega
      have N10 := Lib.hid (show ¬ (g.kind = 2 ∧ ms.length = 1) from fun h => hlen (HN.out.symm.trans h.2))
      have h0 := Lib.hid (cfg_0 NB.out N1.out N7.out N9.out N11.out N10.out)
      clear N1 N7 N9 N11 N10
      have hfl := findM_lt his'.out
      have hfw : wrap64 ((findM ms g.id : Int) + 1) = (findM ms g.id : Int) + 1 := by simp only [wrap64]; omega
      go_wp2_with fail
      refine (delM_any w.heap.size A' ms.length c' (findM ms g.id) _ (ms.map Mb.cells) w6 HI6.out.own (mb_one ms) (findM_lt his'.out) (by first | rfl | (simp only [wrap64]; omega)) (by omega)).mono ?_
      rintro e w7 ⟨A7, c7, rfl, hc7, ho7, hg7⟩
      clear c0 c1 g0 g1 g2 g3 n0 n1 n2 r0 r1 r2 m0 m1 hy hy1 hy2 hy6
      have hcl : cfgMs ms g = delMs ms g := by rw [cfgMs, if_pos hk]
      have hll : ((ms.map Mb.cells).take (findM ms g.id) ++ (ms.map Mb.cells).drop (findM ms g.id + 1)).length = (cfgMs ms g).length := by rw [delMs_cells ms g (by omega), List.length_map, hcl]
      have HI7 := Lib.hid (HI6.out.put (ms2 := cfgMs ms g) hg7 (by rw [hcl]; exact delMs_cells ms g (by omega)) ho7 hc7)
      rw [hll] at HI7 ⊢
      clear hll hcl
      obtain ⟨n0, n1, n2⟩ := two (HI6.out.kept hg7 _ _ HI6.out.kN (by intro cs fz h; cases h))
      obtain ⟨c0, c1, _⟩ := two (HI6.out.kept hg7 _ _ HI6.out.kC (by intro cs fz h; cases h))
      obtain ⟨g0, g1, g2, g3⟩ := Chg.facts (HI6.out.kept hg7 _ _ HI6.out.kG (by intro cs fz h; cases h))
      rw [hk] at g0
      obtain ⟨r0, r1, r2⟩ := two (HI6.out.kept hg7 _ _ HI6.out.kR (by intro cs fz h; cases h))
      have x1 : ¬ b6 = w.heap.size := by have := HI6.out.s6; omega
      have x2 : ¬ b6 = w.heap.size + 1 := by have := HI6.out.s6; omega
      have x3 : ¬ b6 = w.heap.size + 1 + 1 := by have := HI6.out.s6; omega
      have x4 : ¬ w.heap.size = b6 := by have := HI6.out.s6; omega
      have x5 : ¬ w.heap.size + 1 = b6 := by have := HI6.out.s6; omega
      have x6 : ¬ w.heap.size + 1 + 1 = b6 := by have := HI6.out.s6; omega
      go_wp2_with fail
      rw [store2 HI7.out.kR]
      have hg := setRow_heap (w7.setCell ⟨b6, 1, none⟩ (.slice A7 (cfgMs ms g).length c7)) (w.heap.size + 1 + 1) _ #[.int .i64 (ep + 1), .slice A7 (cfgMs ms g).length c7] 26 (0, 0) HI7.out.kR
      refine bodyPost_ret (res_ct rfl _ _ (w.heap.size + 1 + 1) 26 _ (0, 0) _ rfl hg Tryd.underlying26 rfl size26) rfl ?_
      exact HI7.out.done h0.out
    · obtain ⟨c0, c1, _⟩ := two HI.out.kC
      obtain ⟨g0, g1, g2, g3⟩ := Chg.facts HI.out.kG
      rw [hk] at g0
      obtain ⟨n0, n1, n2⟩ := two HI.out.kN
      obtain ⟨r0, r1, r2⟩ := two HI.out.kR
      have HBx := Lib.hid (show Below W3.heap.size W3 (W3.alloc (.cells (Mb.mk g.id g.root g.height).arr 84)) from (Below.refl _ _).alloc (Nat.le_refl _) _)
      have hz3 : w.heap.size + 1 + 1 < W3.heap.size := heap_lt HI.out.kR
      have hz31 : w.heap.size + 1 < W3.heap.size := by omega
      have hz32 : w.heap.size < W3.heap.size := by omega
      have hz6 : b6 < W3.heap.size := heap_lt HI.out.kN
      have hgm3 : g.mb = Mb.mk g.new g.root g.height := by rw [Chg.mb, if_pos hk]
      have m1 : (W3.alloc (.cells (Mb.mk g.new g.root g.height).arr 84)).rangeAt W3.heap.size 0 g.mb.cells := by rw [hgm3]; exact newRangeM _ _ _
      go_wp2_with (first
        | (with_reducible refine loadM rfl 50 _ rfl (w.heap.size + 1) 3 rfl 33 _ (nodeC_len _ _) _ g3 Tryd.underlying50 rfl size50 (nodeA g.root g.height) rfl ?_)
        | (refine buildM rfl 84 _ rfl (Mb.mk g.id g.root g.height).arr (built84 _ _ _) ?_)
        | (with_reducible refine storeNew rfl 84 _ _ rfl rfl (Mb.mk g.id g.root g.height).arr rfl 84 _ 34 (Mb.arrSize _) size84 rfl (Mb.ones _) ?_)
        | (with_reducible refine loadM rfl 84 _ rfl W3.heap.size 0 rfl 34 _ (Mb.len _) _ m1 Tryd.underlying84 rfl size84 g.mb.arr rfl ?_))
      have HI3 := Lib.hid (HI.out.later (show Below W3.heap.size W3 (W3.alloc (.cells (Mb.mk g.new g.root g.height).arr 84)) from (Below.refl _ _).alloc (Nat.le_refl _) _))
      have kM3 := Lib.hid (show (W3.alloc (.cells (Mb.mk g.new g.root g.height).arr 84)).heap[W3.heap.size]? = some (.cells g.mb.arr 84 (0, 0)) from by rw [hgm3]; exact heap_alloc_last _ _)
      have hr4 := right_any g.mb
      rw [hgm3] at hr4
      refine (hr4 _).mono ?_
      rintro e w4 ⟨rfl, hb4⟩
      clear hr4 c0 c1 g0 g1 g2 g3 n0 n1 n2 r0 r1 r2 m1 hz3 hz31 hz32 hz6 HBx
      rw [← hgm3]
      have HGM := Lib.hid hgm3
      clear hgm3
      have HI4 := Lib.hid (HI3.out.later hb4)
      have kM4 := Lib.hid (blk_later hb4 kM3.out)
      clear hb4
      have hy : w.heap.size + 1 + 1 < w4.heap.size := heap_lt HI4.out.kR
      have hy1 : w.heap.size + 1 < w4.heap.size := by omega
      have hy2 : w.heap.size < w4.heap.size := by omega
      have hy6 : b6 < w4.heap.size := heap_lt HI4.out.kN
      obtain ⟨c0, c1, _⟩ := two HI4.out.kC
      obtain ⟨g0, g1, g2, g3⟩ := Chg.facts HI4.out.kG
      rw [hk] at g0
      obtain ⟨n0, n1, n2⟩ := two HI4.out.kN
      obtain ⟨r0, r1, r2⟩ := two HI4.out.kR
      obtain ⟨m0, m1⟩ := Mb.facts kM4.out
      cases hrt : rightM g.mb
      · have hrt := Lib.hid hrt
        go_wp2_with fail
        rw [store2 HI4.out.kR]
        have hg := setRow_heap w4 (w.heap.size + 1 + 1) _ #[.int .i64 0, .slice none 0 0] 26 (0, 0) HI4.out.kR
        refine bodyPost_ret (res_ct rfl _ _ (w.heap.size + 1 + 1) 26 _ (0, 0) _ rfl hg Tryd.underlying26 rfl size26) rfl ?_
        exact CapPost.bad (by decide) (cfg_1 NB.out ⟨by omega, hrt.out⟩) (below_setRow HI4.out.bel (by omega) _)
      have hrt' := Lib.hid hrt
      have N1 := Lib.hid (show ¬ (g.kind ≠ 2 ∧ rightM g.mb = false) from fun h => by rw [hrt'.out] at h; cases h.2)
      clear hrt
      go_wp2_with fail
      refine (find_n T A n ms _ _ _ _ HN.out (HR.out.below HI4.out.bel) hb).mono ?_
      rintro e w5 ⟨rfl, hb5⟩
      clear c0 c1 g0 g1 g2 g3 n0 n1 n2 r0 r1 r2 m0 m1 hy hy1 hy2 hy6
      have HI5 := Lib.hid (HI4.out.later hb5)
      have kM5 := Lib.hid (blk_later hb5 kM4.out)
      clear hb5
      have hy : w.heap.size + 1 + 1 < w5.heap.size := heap_lt HI5.out.kR
      have hy1 : w.heap.size + 1 < w5.heap.size := by omega
      have hy2 : w.heap.size < w5.heap.size := by omega
      have hy6 : b6 < w5.heap.size := heap_lt HI5.out.kN
      obtain ⟨c0, c1, _⟩ := two HI5.out.kC
      obtain ⟨g0, g1, g2, g3⟩ := Chg.facts HI5.out.kG
      rw [hk] at g0
      obtain ⟨n0, n1, n2⟩ := two HI5.out.kN
      obtain ⟨r0, r1, r2⟩ := two HI5.out.kR
      obtain ⟨m0, m1⟩ := Mb.facts kM5.out
      go_wp2_with fail
      refine (find_n T A n ms _ _ _ _ HN.out (HR.out.below HI5.out.bel) hb).mono ?_
      rintro e w6 ⟨rfl, hb6⟩
      clear c0 c1 g0 g1 g2 g3 n0 n1 n2 r0 r1 r2 m0 m1 hy hy1 hy2 hy6
      have HI6 := Lib.hid (HI5.out.later hb6)
      have kM6 := Lib.hid (blk_later hb6 kM5.out)
      clear hb6
      have hy : w.heap.size + 1 + 1 < w6.heap.size := heap_lt HI6.out.kR
      have hy1 : w.heap.size + 1 < w6.heap.size := by omega
      have hy2 : w.heap.size < w6.heap.size := by omega
      have hy6 : b6 < w6.heap.size := heap_lt HI6.out.kN
      obtain ⟨c0, c1, _⟩ := two HI6.out.kC
      obtain ⟨g0, g1, g2, g3⟩ := Chg.facts HI6.out.kG
      rw [hk] at g0
      obtain ⟨n0, n1, n2⟩ := two HI6.out.kN
      obtain ⟨r0, r1, r2⟩ := two HI6.out.kR
      obtain ⟨m0, m1⟩ := Mb.facts kM6.out
      cases his : hasM ms g.id
      · have his := Lib.hid his
        go_wp2_with fail
        rw [store2 HI6.out.kR]
        have hg := setRow_heap w6 (w.heap.size + 1 + 1) _ #[.int .i64 0, .slice none 0 0] 26 (0, 0) HI6.out.kR
        refine bodyPost_ret (res_ct rfl _ _ (w.heap.size + 1 + 1) 26 _ (0, 0) _ rfl hg Tryd.underlying26 rfl size26) rfl ?_
        exact CapPost.bad (by decide) (cfg_7 NB.out N1.out ⟨by omega, his.out⟩) (below_setRow HI6.out.bel (by omega) _)
      have his' := Lib.hid his
      have N7 := Lib.hid (show ¬ (g.kind ≠ 1 ∧ hasM ms g.id = false) from fun h => by rw [his'.out] at h; cases h.2)
      clear his
      cases hot : hasM ms g.mb.id
      case true =>
        have hot := Lib.hid hot
        go_wp2_with fail
        rw [store2 HI6.out.kR]
        have hg := setRow_heap w6 (w.heap.size + 1 + 1) _ #[.int .i64 0, .slice none 0 0] 26 (0, 0) HI6.out.kR
        refine bodyPost_ret (res_ct rfl _ _ (w.heap.size + 1 + 1) 26 _ (0, 0) _ rfl hg Tryd.underlying26 rfl size26) rfl ?_
        exact CapPost.bad (by decide) (cfg_9 NB.out N1.out N7.out ⟨by omega, hot.out⟩) (below_setRow HI6.out.bel (by omega) _)
      have hot' := Lib.hid hot
      have N9 := Lib.hid (show ¬ ((g.kind = 1 ∨ g.kind = 3) ∧ hasM ms g.mb.id = true) from fun h => by rw [hot'.out] at h; cases h.2)
      clear hot
      have N11 := Lib.hid (show ¬ (g.kind = 1 ∧ ms.length = 10) from fun h => by omega)
      have N10 := Lib.hid (show ¬ (g.kind = 2 ∧ ms.length = 1) from fun h => by omega)
      have h0 := Lib.hid (cfg_0 NB.out N1.out N7.out N9.out N11.out N10.out)
      clear N1 N7 N9 N11 N10
      have hfl := findM_lt his'.out
      have hfw : wrap64 ((findM ms g.id : Int) + 1) = (findM ms g.id : Int) + 1 := by simp only [wrap64]; omega
      go_wp2_with fail
      refine (delM_any w.heap.size A' ms.length c' (findM ms g.id) _ (ms.map Mb.cells) w6 HI6.out.own (mb_one ms) (findM_lt his'.out) (by first | rfl | (simp only [wrap64]; omega)) (by omega)).mono ?_
      rintro e w7 ⟨A7, c7, rfl, hc7, ho7, hg7⟩
      clear c0 c1 g0 g1 g2 g3 n0 n1 n2 r0 r1 r2 m0 m1 hy hy1 hy2 hy6
      have hll : ((ms.map Mb.cells).take (findM ms g.id) ++ (ms.map Mb.cells).drop (findM ms g.id + 1)).length = (delMs ms g).length := by rw [delMs_cells ms g (by omega), List.length_map]
      have HI7 := Lib.hid (HI6.out.put hg7 (delMs_cells ms g (by omega)) ho7 hc7)
      rw [hll] at HI7 ⊢
      clear hll
      have kM7 := Lib.hid (blk_grown hg7 kM6.out (by intro e; have := (HI.out.own.base_le _ e).2; omega))
      have hb67 : W3.heap.size ≠ b6 := by have := heap_lt HI.out.kN; omega
      have kM7' := Lib.hid (blk_set_other kM7.out hb67 1 (.slice A7 (delMs ms g).length c7))
      obtain ⟨m0, _⟩ := Mb.facts kM7.out
      have x7 : ¬ W3.heap.size = b6 := hb67
      have x8 : ¬ b6 = W3.heap.size := Ne.symm hb67
      obtain ⟨n0, n1, n2⟩ := two (HI6.out.kept hg7 _ _ HI6.out.kN (by intro cs fz h; cases h))
      obtain ⟨c0, c1, _⟩ := two (HI6.out.kept hg7 _ _ HI6.out.kC (by intro cs fz h; cases h))
      obtain ⟨g0, g1, g2, g3⟩ := Chg.facts (HI6.out.kept hg7 _ _ HI6.out.kG (by intro cs fz h; cases h))
      rw [hk] at g0
      obtain ⟨r0, r1, r2⟩ := two (HI6.out.kept hg7 _ _ HI6.out.kR (by intro cs fz h; cases h))
      have x1 : ¬ b6 = w.heap.size := by have := HI6.out.s6; omega
      have x2 : ¬ b6 = w.heap.size + 1 := by have := HI6.out.s6; omega
      have x3 : ¬ b6 = w.heap.size + 1 + 1 := by have := HI6.out.s6; omega
      have x4 : ¬ w.heap.size = b6 := by have := HI6.out.s6; omega
      have x5 : ¬ w.heap.size + 1 = b6 := by have := HI6.out.s6; omega
      have x6 : ¬ w.heap.size + 1 + 1 = b6 := by have := HI6.out.s6; omega
      go_wp2_with fail
      refine (find_n _ A7 _ (delMs ms g) _ _ _ _ rfl HI7.out.own.rowOf (by have := delMs_le ms g; omega)).mono ?_
      rintro e w8 ⟨rfl, hb8⟩
      clear m0 x7 x8 n0 n1 n2 c0 c1 g0 g1 g2 g3 r0 r1 r2 x1 x2 x3 x4 x5 x6
      have HI8 := Lib.hid (HI7.out.later hb8)
      have kM8 := Lib.hid (blk_later hb8 kM7'.out)
      clear hb8
      have hy : w.heap.size + 1 + 1 < w8.heap.size := heap_lt HI8.out.kR
      have hy1 : w.heap.size + 1 < w8.heap.size := by omega
      have hy2 : w.heap.size < w8.heap.size := by omega
      have hy6 : b6 < w8.heap.size := heap_lt HI8.out.kN
      obtain ⟨c0, c1, _⟩ := two HI8.out.kC
      obtain ⟨g0, g1, g2, g3⟩ := Chg.facts HI8.out.kG
      rw [hk] at g0
      obtain ⟨n0, n1, n2⟩ := two HI8.out.kN
      obtain ⟨r0, r1, r2⟩ := two HI8.out.kR
      obtain ⟨m0, m1⟩ := Mb.facts kM8.out
      go_wp2_with (first | (with_reducible refine loadM rfl 84 _ rfl W3.heap.size 0 rfl 34 _ (Mb.len _) _ m1 Tryd.underlying84 rfl size84 g.mb.arr rfl ?_))
      have hcl : cfgMs ms g = insMs (delMs ms g) g.mb := by rw [cfgMs, if_neg (by omega)]
      refine (insM_any w.heap.size A7 (delMs ms g).length c7 (findM (delMs ms g) g.mb.id) w8.heap.size ((delMs ms g).map Mb.cells) g.mb.cells g.mb.arr _ (HI8.out.own.below ((Below.refl _ _).alloc (Nat.le_refl _) _)) (mb_one (delMs ms g)) (bs_le _ _) (by have := delMs_le ms g; omega)
        (Mb.len _) (fun u hu => Mb.ones _ u hu) rfl (heap_alloc_last _ _) (fun e => Nat.lt_irrefl _ (HI8.out.own.base_le _ e).2) (by rw [World.size_alloc]; omega)).mono ?_
      rintro e w9 ⟨A9, c9, rfl, hc9, ho9, hg9⟩
      clear m0 m1 n0 n1 n2 c0 c1 g0 g1 g2 g3 r0 r1 r2
      have hcc : ((delMs ms g).map Mb.cells).take (findM (delMs ms g) g.mb.id) ++ (g.mb.cells :: ((delMs ms g).map Mb.cells).drop (findM (delMs ms g) g.mb.id)) = (cfgMs ms g).map Mb.cells := by rw [hcl]; exact insMs_cells _ _
      have hll : (((delMs ms g).map Mb.cells).take (findM (delMs ms g) g.mb.id) ++ (g.mb.cells :: ((delMs ms g).map Mb.cells).drop (findM (delMs ms g) g.mb.id))).length = (cfgMs ms g).length := by rw [hcc, List.length_map]
      have HIa := Lib.hid (HI8.out.later (W' := w8.alloc (.cells g.mb.arr 84)) ((Below.refl _ _).alloc (Nat.le_refl _) _))
      have HI9 := Lib.hid (HIa.out.put (ms2 := cfgMs ms g) hg9 hcc ho9 hc9)
      rw [hll] at HI9 ⊢
      clear hll hcc hcl
      obtain ⟨n0, n1, n2⟩ := two (HIa.out.kept hg9 _ _ HIa.out.kN (by intro cs fz h; cases h))
      obtain ⟨c0, c1, _⟩ := two (HIa.out.kept hg9 _ _ HIa.out.kC (by intro cs fz h; cases h))
      obtain ⟨g0, g1, g2, g3⟩ := Chg.facts (HIa.out.kept hg9 _ _ HIa.out.kG (by intro cs fz h; cases h))
      rw [hk] at g0
      obtain ⟨r0, r1, r2⟩ := two (HIa.out.kept hg9 _ _ HIa.out.kR (by intro cs fz h; cases h))
      have x1 : ¬ b6 = w.heap.size := by have := HIa.out.s6; omega
      have x2 : ¬ b6 = w.heap.size + 1 := by have := HIa.out.s6; omega
      have x3 : ¬ b6 = w.heap.size + 1 + 1 := by have := HIa.out.s6; omega
      have x4 : ¬ w.heap.size = b6 := by have := HIa.out.s6; omega
      have x5 : ¬ w.heap.size + 1 = b6 := by have := HIa.out.s6; omega
      have x6 : ¬ w.heap.size + 1 + 1 = b6 := by have := HIa.out.s6; omega
      go_wp2_with fail
      rw [store2 HI9.out.kR]
      have hg := setRow_heap (w9.setCell ⟨b6, 1, none⟩ (.slice A9 (cfgMs ms g).length c9)) (w.heap.size + 1 + 1) _ #[.int .i64 (ep + 1), .slice A9 (cfgMs ms g).length c9] 26 (0, 0) HI9.out.kR
      refine bodyPost_ret (res_ct rfl _ _ (w.heap.size + 1 + 1) 26 _ (0, 0) _ rfl hg Tryd.underlying26 rfl size26) rfl ?_
      exact HI9.out.done h0.out
    · obtain ⟨c0, c1, _⟩ := two HI.out.kC
      obtain ⟨g0, g1, g2, g3⟩ := Chg.facts HI.out.kG
      rw [hk] at g0
      obtain ⟨n0, n1, n2⟩ := two HI.out.kN
      obtain ⟨r0, r1, r2⟩ := two HI.out.kR
      have HBx := Lib.hid (show Below W3.heap.size W3 (W3.alloc (.cells (Mb.mk g.id g.root g.height).arr 84)) from (Below.refl _ _).alloc (Nat.le_refl _) _)
      have hz3 : w.heap.size + 1 + 1 < W3.heap.size := heap_lt HI.out.kR
      have hz31 : w.heap.size + 1 < W3.heap.size := by omega
      have hz32 : w.heap.size < W3.heap.size := by omega
      have hz6 : b6 < W3.heap.size := heap_lt HI.out.kN
      have hgm3 : g.mb = Mb.mk g.id g.root g.height := by rw [Chg.mb, if_neg (by omega)]
      have m1 : (W3.alloc (.cells (Mb.mk g.id g.root g.height).arr 84)).rangeAt W3.heap.size 0 g.mb.cells := by rw [hgm3]; exact newRangeM _ _ _
      go_wp2_with (first
        | (with_reducible refine loadM rfl 50 _ rfl (w.heap.size + 1) 3 rfl 33 _ (nodeC_len _ _) _ g3 Tryd.underlying50 rfl size50 (nodeA g.root g.height) rfl ?_)
        | (refine buildM rfl 84 _ rfl (Mb.mk g.id g.root g.height).arr (built84 _ _ _) ?_)
        | (with_reducible refine storeNew rfl 84 _ _ rfl rfl (Mb.mk g.id g.root g.height).arr rfl 84 _ 34 (Mb.arrSize _) size84 rfl (Mb.ones _) ?_)
        | (with_reducible refine loadM rfl 84 _ rfl W3.heap.size 0 rfl 34 _ (Mb.len _) _ m1 Tryd.underlying84 rfl size84 g.mb.arr rfl ?_))
      have HI3 := Lib.hid (HI.out.later (show Below W3.heap.size W3 (W3.alloc (.cells (Mb.mk g.id g.root g.height).arr 84)) from (Below.refl _ _).alloc (Nat.le_refl _) _))
      have kM3 := Lib.hid (show (W3.alloc (.cells (Mb.mk g.id g.root g.height).arr 84)).heap[W3.heap.size]? = some (.cells g.mb.arr 84 (0, 0)) from by rw [hgm3]; exact heap_alloc_last _ _)
      have hr4 := right_any g.mb
      rw [hgm3] at hr4
      refine (hr4 _).mono ?_
      rintro e w4 ⟨rfl, hb4⟩
      clear hr4 c0 c1 g0 g1 g2 g3 n0 n1 n2 r0 r1 r2 m1 hz3 hz31 hz32 hz6 HBx
      rw [← hgm3]
      have HGM := Lib.hid hgm3
      clear hgm3
      have HI4 := Lib.hid (HI3.out.later hb4)
      have kM4 := Lib.hid (blk_later hb4 kM3.out)
      clear hb4
      have hy : w.heap.size + 1 + 1 < w4.heap.size := heap_lt HI4.out.kR
      have hy1 : w.heap.size + 1 < w4.heap.size := by omega
      have hy2 : w.heap.size < w4.heap.size := by omega
      have hy6 : b6 < w4.heap.size := heap_lt HI4.out.kN
      obtain ⟨c0, c1, _⟩ := two HI4.out.kC
      obtain ⟨g0, g1, g2, g3⟩ := Chg.facts HI4.out.kG
      rw [hk] at g0
      obtain ⟨n0, n1, n2⟩ := two HI4.out.kN
      obtain ⟨r0, r1, r2⟩ := two HI4.out.kR
      obtain ⟨m0, m1⟩ := Mb.facts kM4.out
      cases hrt : rightM g.mb
      · have hrt := Lib.hid hrt
        go_wp2_with fail
        rw [store2 HI4.out.kR]
        have hg := setRow_heap w4 (w.heap.size + 1 + 1) _ #[.int .i64 0, .slice none 0 0] 26 (0, 0) HI4.out.kR
        refine bodyPost_ret (res_ct rfl _ _ (w.heap.size + 1 + 1) 26 _ (0, 0) _ rfl hg Tryd.underlying26 rfl size26) rfl ?_
        exact CapPost.bad (by decide) (cfg_1 NB.out ⟨by omega, hrt.out⟩) (below_setRow HI4.out.bel (by omega) _)
      have hrt' := Lib.hid hrt
      have N1 := Lib.hid (show ¬ (g.kind ≠ 2 ∧ rightM g.mb = false) from fun h => by rw [hrt'.out] at h; cases h.2)
      clear hrt
      go_wp2_with fail
      refine (find_n T A n ms _ _ _ _ HN.out (HR.out.below HI4.out.bel) hb).mono ?_
      rintro e w5 ⟨rfl, hb5⟩
      clear c0 c1 g0 g1 g2 g3 n0 n1 n2 r0 r1 r2 m0 m1 hy hy1 hy2 hy6
      have HI5 := Lib.hid (HI4.out.later hb5)
      have kM5 := Lib.hid (blk_later hb5 kM4.out)
      clear hb5
      have hy : w.heap.size + 1 + 1 < w5.heap.size := heap_lt HI5.out.kR
      have hy1 : w.heap.size + 1 < w5.heap.size := by omega
      have hy2 : w.heap.size < w5.heap.size := by omega
      have hy6 : b6 < w5.heap.size := heap_lt HI5.out.kN
      obtain ⟨c0, c1, _⟩ := two HI5.out.kC
      obtain ⟨g0, g1, g2, g3⟩ := Chg.facts HI5.out.kG
      rw [hk] at g0
      obtain ⟨n0, n1, n2⟩ := two HI5.out.kN
      obtain ⟨r0, r1, r2⟩ := two HI5.out.kR
      obtain ⟨m0, m1⟩ := Mb.facts kM5.out
      go_wp2_with fail
      refine (find_n T A n ms _ _ _ _ HN.out (HR.out.below HI5.out.bel) hb).mono ?_
      rintro e w6 ⟨rfl, hb6⟩
      clear c0 c1 g0 g1 g2 g3 n0 n1 n2 r0 r1 r2 m0 m1 hy hy1 hy2 hy6
      have HI6 := Lib.hid (HI5.out.later hb6)
      have kM6 := Lib.hid (blk_later hb6 kM5.out)
      clear hb6
      have hy : w.heap.size + 1 + 1 < w6.heap.size := heap_lt HI6.out.kR
      have hy1 : w.heap.size + 1 < w6.heap.size := by omega
      have hy2 : w.heap.size < w6.heap.size := by omega
      have hy6 : b6 < w6.heap.size := heap_lt HI6.out.kN
      obtain ⟨c0, c1, _⟩ := two HI6.out.kC
      obtain ⟨g0, g1, g2, g3⟩ := Chg.facts HI6.out.kG
      rw [hk] at g0
      obtain ⟨n0, n1, n2⟩ := two HI6.out.kN
      obtain ⟨r0, r1, r2⟩ := two HI6.out.kR
      obtain ⟨m0, m1⟩ := Mb.facts kM6.out
      cases his : hasM ms g.id
      · have his := Lib.hid his
        go_wp2_with fail
        rw [store2 HI6.out.kR]
        have hg := setRow_heap w6 (w.heap.size + 1 + 1) _ #[.int .i64 0, .slice none 0 0] 26 (0, 0) HI6.out.kR
        refine bodyPost_ret (res_ct rfl _ _ (w.heap.size + 1 + 1) 26 _ (0, 0) _ rfl hg Tryd.underlying26 rfl size26) rfl ?_
        exact CapPost.bad (by decide) (cfg_7 NB.out N1.out ⟨by omega, his.out⟩) (below_setRow HI6.out.bel (by omega) _)
      have his' := Lib.hid his
      have N7 := Lib.hid (show ¬ (g.kind ≠ 1 ∧ hasM ms g.id = false) from fun h => by rw [his'.out] at h; cases h.2)
      clear his
      have N9 := Lib.hid (show ¬ ((g.kind = 1 ∨ g.kind = 3) ∧ hasM ms g.mb.id = true) from fun h => by omega)
      have N11 := Lib.hid (show ¬ (g.kind = 1 ∧ ms.length = 10) from fun h => by omega)
      have N10 := Lib.hid (show ¬ (g.kind = 2 ∧ ms.length = 1) from fun h => by omega)
      have h0 := Lib.hid (cfg_0 NB.out N1.out N7.out N9.out N11.out N10.out)
      clear N1 N7 N9 N11 N10
      have hfl := findM_lt his'.out
      have hfw : wrap64 ((findM ms g.id : Int) + 1) = (findM ms g.id : Int) + 1 := by simp only [wrap64]; omega
      go_wp2_with fail
      refine (delM_any w.heap.size A' ms.length c' (findM ms g.id) _ (ms.map Mb.cells) w6 HI6.out.own (mb_one ms) (findM_lt his'.out) (by first | rfl | (simp only [wrap64]; omega)) (by omega)).mono ?_
      rintro e w7 ⟨A7, c7, rfl, hc7, ho7, hg7⟩
      clear c0 c1 g0 g1 g2 g3 n0 n1 n2 r0 r1 r2 m0 m1 hy hy1 hy2 hy6
      have hll : ((ms.map Mb.cells).take (findM ms g.id) ++ (ms.map Mb.cells).drop (findM ms g.id + 1)).length = (delMs ms g).length := by rw [delMs_cells ms g (by omega), List.length_map]
      have HI7 := Lib.hid (HI6.out.put hg7 (delMs_cells ms g (by omega)) ho7 hc7)
      rw [hll] at HI7 ⊢
      clear hll
      have kM7 := Lib.hid (blk_grown hg7 kM6.out (by intro e; have := (HI.out.own.base_le _ e).2; omega))
      have hb67 : W3.heap.size ≠ b6 := by have := heap_lt HI.out.kN; omega
      have kM7' := Lib.hid (blk_set_other kM7.out hb67 1 (.slice A7 (delMs ms g).length c7))
      obtain ⟨m0, _⟩ := Mb.facts kM7.out
      have x7 : ¬ W3.heap.size = b6 := hb67
      have x8 : ¬ b6 = W3.heap.size := Ne.symm hb67
      obtain ⟨n0, n1, n2⟩ := two (HI6.out.kept hg7 _ _ HI6.out.kN (by intro cs fz h; cases h))
      obtain ⟨c0, c1, _⟩ := two (HI6.out.kept hg7 _ _ HI6.out.kC (by intro cs fz h; cases h))
      obtain ⟨g0, g1, g2, g3⟩ := Chg.facts (HI6.out.kept hg7 _ _ HI6.out.kG (by intro cs fz h; cases h))
      rw [hk] at g0
      obtain ⟨r0, r1, r2⟩ := two (HI6.out.kept hg7 _ _ HI6.out.kR (by intro cs fz h; cases h))
      have x1 : ¬ b6 = w.heap.size := by have := HI6.out.s6; omega
      have x2 : ¬ b6 = w.heap.size + 1 := by have := HI6.out.s6; omega
      have x3 : ¬ b6 = w.heap.size + 1 + 1 := by have := HI6.out.s6; omega
      have x4 : ¬ w.heap.size = b6 := by have := HI6.out.s6; omega
      have x5 : ¬ w.heap.size + 1 = b6 := by have := HI6.out.s6; omega
      have x6 : ¬ w.heap.size + 1 + 1 = b6 := by have := HI6.out.s6; omega
      go_wp2_with fail
      refine (find_n _ A7 _ (delMs ms g) _ _ _ _ rfl HI7.out.own.rowOf (by have := delMs_le ms g; omega)).mono ?_
      rintro e w8 ⟨rfl, hb8⟩
      clear m0 x7 x8 n0 n1 n2 c0 c1 g0 g1 g2 g3 r0 r1 r2 x1 x2 x3 x4 x5 x6
      have HI8 := Lib.hid (HI7.out.later hb8)
      have kM8 := Lib.hid (blk_later hb8 kM7'.out)
      clear hb8
      have hy : w.heap.size + 1 + 1 < w8.heap.size := heap_lt HI8.out.kR
      have hy1 : w.heap.size + 1 < w8.heap.size := by omega
      have hy2 : w.heap.size < w8.heap.size := by omega
      have hy6 : b6 < w8.heap.size := heap_lt HI8.out.kN
      obtain ⟨c0, c1, _⟩ := two HI8.out.kC
      obtain ⟨g0, g1, g2, g3⟩ := Chg.facts HI8.out.kG
      rw [hk] at g0
      obtain ⟨n0, n1, n2⟩ := two HI8.out.kN
      obtain ⟨r0, r1, r2⟩ := two HI8.out.kR
      obtain ⟨m0, m1⟩ := Mb.facts kM8.out
      go_wp2_with (first | (with_reducible refine loadM rfl 84 _ rfl W3.heap.size 0 rfl 34 _ (Mb.len _) _ m1 Tryd.underlying84 rfl size84 g.mb.arr rfl ?_))
      have hcl : cfgMs ms g = insMs (delMs ms g) g.mb := by rw [cfgMs, if_neg (by omega)]
      refine (insM_any w.heap.size A7 (delMs ms g).length c7 (findM (delMs ms g) g.mb.id) w8.heap.size ((delMs ms g).map Mb.cells) g.mb.cells g.mb.arr _ (HI8.out.own.below ((Below.refl _ _).alloc (Nat.le_refl _) _)) (mb_one (delMs ms g)) (bs_le _ _) (by have := delMs_le ms g; omega)
        (Mb.len _) (fun u hu => Mb.ones _ u hu) rfl (heap_alloc_last _ _) (fun e => Nat.lt_irrefl _ (HI8.out.own.base_le _ e).2) (by rw [World.size_alloc]; omega)).mono ?_
      rintro e w9 ⟨A9, c9, rfl, hc9, ho9, hg9⟩
      clear m0 m1 n0 n1 n2 c0 c1 g0 g1 g2 g3 r0 r1 r2
      have hcc : ((delMs ms g).map Mb.cells).take (findM (delMs ms g) g.mb.id) ++ (g.mb.cells :: ((delMs ms g).map Mb.cells).drop (findM (delMs ms g) g.mb.id)) = (cfgMs ms g).map Mb.cells := by rw [hcl]; exact insMs_cells _ _
      have hll : (((delMs ms g).map Mb.cells).take (findM (delMs ms g) g.mb.id) ++ (g.mb.cells :: ((delMs ms g).map Mb.cells).drop (findM (delMs ms g) g.mb.id))).length = (cfgMs ms g).length := by rw [hcc, List.length_map]
      have HIa := Lib.hid (HI8.out.later (W' := w8.alloc (.cells g.mb.arr 84)) ((Below.refl _ _).alloc (Nat.le_refl _) _))
      have HI9 := Lib.hid (HIa.out.put (ms2 := cfgMs ms g) hg9 hcc ho9 hc9)
      rw [hll] at HI9 ⊢
      clear hll hcc hcl
      obtain ⟨n0, n1, n2⟩ := two (HIa.out.kept hg9 _ _ HIa.out.kN (by intro cs fz h; cases h))
      obtain ⟨c0, c1, _⟩ := two (HIa.out.kept hg9 _ _ HIa.out.kC (by intro cs fz h; cases h))
      obtain ⟨g0, g1, g2, g3⟩ := Chg.facts (HIa.out.kept hg9 _ _ HIa.out.kG (by intro cs fz h; cases h))
      rw [hk] at g0
      obtain ⟨r0, r1, r2⟩ := two (HIa.out.kept hg9 _ _ HIa.out.kR (by intro cs fz h; cases h))
      have x1 : ¬ b6 = w.heap.size := by have := HIa.out.s6; omega
      have x2 : ¬ b6 = w.heap.size + 1 := by have := HIa.out.s6; omega
      have x3 : ¬ b6 = w.heap.size + 1 + 1 := by have := HIa.out.s6; omega
      have x4 : ¬ w.heap.size = b6 := by have := HIa.out.s6; omega
      have x5 : ¬ w.heap.size + 1 = b6 := by have := HIa.out.s6; omega
      have x6 : ¬ w.heap.size + 1 + 1 = b6 := by have := HIa.out.s6; omega
      go_wp2_with fail
      rw [store2 HI9.out.kR]
      have hg := setRow_heap (w9.setCell ⟨b6, 1, none⟩ (.slice A9 (cfgMs ms g).length c9)) (w.heap.size + 1 + 1) _ #[.int .i64 (ep + 1), .slice A9 (cfgMs ms g).length c9] 26 (0, 0) HI9.out.kR
      refine bodyPost_ret (res_ct rfl _ _ (w.heap.size + 1 + 1) 26 _ (0, 0) _ rfl hg Tryd.underlying26 rfl size26) rfl ?_
      exact HI9.out.done h0.out
end Go.Proofs.YtchnnplcpidkiaaDoor
