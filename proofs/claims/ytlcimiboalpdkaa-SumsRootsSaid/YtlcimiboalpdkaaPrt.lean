/- The printer in memory, and the walks over its methods put and later. -/
import Derived.Test.YtlcimiboalpdkaaRot
import Derived.RegionTactic
import Derived.ChangeAlike
import Derived.Laws.OwnMore
import Derived.Deep.Draws
import Derived.Laws.Rows
import Derived.Below
namespace Go.Proofs.Ytlcimiboalpdkaa
open Go.RowKit

/-- A block that is known whole. -/
def Blk (w : World) (g : Nat) (t : TypeId) (cs : Array Value) : Prop := w.heap[g]? = some (.cells cs t (0, 0))
section
variable {w w' : World} {g : Nat} {t : TypeId} {cs : Array Value}
theorem Blk.lt (h : Blk w g t cs) : g < w.heap.size := by
  rcases Nat.lt_or_ge g w.heap.size with hlt | hge
  · exact hlt
  · unfold Blk at h; rw [Array.getElem?_eq_none hge] at h; cases h
theorem Blk.cell (h : Blk w g t cs) (i : Nat) : w.cell? ⟨g, i, none⟩ = cs[i]? := cell_of_row w g i cs t (0, 0) h
theorem Blk.frozen (h : Blk w g t cs) (i : Nat) : w.frozen? ⟨g, i, none⟩ = false := by
  unfold Blk at h
  simp [World.frozen?, h]
theorem Blk.new (w : World) (t : TypeId) (cs : Array Value) : Blk (w.alloc (.cells cs t)) w.heap.size t cs := heap_alloc_new w _
theorem Blk.drewN (h : Blk w g t cs) (n : Nat) : Blk (w.drewN n) g t cs := h
theorem Blk.drew (h : Blk w g t cs) : Blk w.drew g t cs := h
theorem Blk.alloc (h : Blk w g t cs) (o : Obj) : Blk (w.alloc o) g t cs := (Below.heap_alloc w o g h.lt).trans h
theorem Blk.set_ (h : Blk w g t cs) (i : Nat) (u : Value) : Blk (w.setCell ⟨g, i, none⟩ u) g t (cs.setIfInBounds i u) := by
  unfold Blk at h ⊢
  simp [World.setCell, Array.getElem?_modify, h]
theorem Blk.below {B : Nat} (h : Blk w g t cs) (hb : Below B w w') (hg : g < B) : Blk w' g t cs := (hb.block g hg).trans h
end

/-- The printer's numbers: H, W, and how many bytes of the block are there. -/
structure Prt where
  h : List Nat
  w : List Nat
  n : Nat

structure Prt.Ok (s : Prt) : Prop where
  hl : s.h.length = 8
  wl : s.w.length = 16
  hb : ∀ x ∈ s.h, x < 4294967296
  wb : ∀ x ∈ s.w, x < 4294967296

def u32s (l : List Nat) : List Value := l.map fun x : Nat => Value.int .u32 (x : Int)
def Prt.cells (s : Prt) : Array Value := (u32s s.h ++ u32s s.w ++ [Value.int .i64 (s.n : Int)]).toArray

/-- The printer at block g. -/
structure PAt (W : World) (g : Nat) (s : Prt) : Prop where
  ok : s.Ok
  blk : Blk W g 39 s.cells

theorem u32s_length (l : List Nat) : (u32s l).length = l.length := by simp [u32s]
theorem u32s_get (l : List Nat) (i : Nat) : (u32s l)[i]? = (l[i]?).map fun x : Nat => Value.int .u32 (x : Int) := by simp [u32s]

section
variable {W : World} {g : Nat} {s : Prt}
theorem PAt.h_cell (p : PAt W g s) (i : Nat) (hi : i < 8) : W.cell? ⟨g, i, none⟩ = some (.int .u32 (s.h.getD i 0 : Nat)) := by
  have hl := p.ok.hl
  rw [p.blk.cell i]
  unfold Prt.cells
  rw [List.getElem?_toArray, List.append_assoc, List.getElem?_append_left (by rw [u32s_length]; omega), u32s_get, List.getD_eq_getElem?_getD, List.getElem?_eq_getElem (by omega)]; rfl
theorem PAt.w_cell (p : PAt W g s) (j : Nat) (hj : j < 16) : W.cell? ⟨g, 8 + j, none⟩ = some (.int .u32 (s.w.getD j 0 : Nat)) := by
  have hl := p.ok.hl
  have wl := p.ok.wl
  rw [p.blk.cell (8 + j)]
  unfold Prt.cells
  rw [List.getElem?_toArray, List.append_assoc, List.getElem?_append_right (by rw [u32s_length]; omega), u32s_length, hl, show 8 + j - 8 = j by omega,
    List.getElem?_append_left (by rw [u32s_length]; omega), u32s_get, List.getD_eq_getElem?_getD, List.getElem?_eq_getElem (by omega)]; rfl
theorem PAt.n_cell (p : PAt W g s) : W.cell? ⟨g, 24, none⟩ = some (.int .i64 (s.n : Int)) := by
  have hl := p.ok.hl
  have wl := p.ok.wl
  rw [p.blk.cell 24]
  unfold Prt.cells
  rw [List.getElem?_toArray, List.getElem?_append_right (by rw [List.length_append, u32s_length, u32s_length]; omega), List.length_append, u32s_length, u32s_length, hl, wl]; rfl
theorem PAt.free (p : PAt W g s) (i : Nat) : W.frozen? ⟨g, i, none⟩ = false := p.blk.frozen i
theorem PAt.drewN (p : PAt W g s) (n : Nat) : PAt (W.drewN n) g s := ⟨p.ok, p.blk⟩
theorem PAt.drew (p : PAt W g s) : PAt W.drew g s := ⟨p.ok, p.blk⟩

theorem set_n {l : List Value} {a b : Value} {k : Nat} (h : l.length = k) : (l ++ [a]).toArray.setIfInBounds k b = (l ++ [b]).toArray := by
  subst h
  rw [List.setIfInBounds_toArray, List.set_append_right _ _ (Nat.le_refl _), Nat.sub_self]; rfl
theorem u32s_set (l : List Nat) (i x : Nat) : (u32s l).set i (.int .u32 (x : Int)) = u32s (l.set i x) := by simp [u32s, List.map_set]

theorem PAt.set_n (p : PAt W g s) (m : Nat) : PAt (W.setCell ⟨g, 24, none⟩ (.int .i64 (m : Int))) g { s with n := m } := by
  refine ⟨⟨p.ok.hl, p.ok.wl, p.ok.hb, p.ok.wb⟩, ?_⟩
  have h := p.blk.set_ 24 (.int .i64 (m : Int))
  unfold Prt.cells at h
  rw [Ytlcimiboalpdkaa.set_n (by rw [List.length_append, u32s_length, u32s_length, p.ok.hl, p.ok.wl])] at h
  exact h
theorem mem_set_lt {l : List Nat} {i x : Nat} (h : ∀ y ∈ l, y < 4294967296) (hx : x < 4294967296) : ∀ y ∈ l.set i x, y < 4294967296 := by
  intro y hy
  rcases List.mem_or_eq_of_mem_set hy with hy | rfl
  · exact h y hy
  · exact hx
theorem PAt.set_w (p : PAt W g s) (j x : Nat) (hj : j < 16) (hx : x < 4294967296) : PAt (W.setCell ⟨g, 8 + j, none⟩ (.int .u32 (x : Int))) g { s with w := s.w.set j x } := by
  refine ⟨⟨p.ok.hl, by rw [List.length_set]; exact p.ok.wl, p.ok.hb, mem_set_lt p.ok.wb hx⟩, ?_⟩
  have h := p.blk.set_ (8 + j) (.int .u32 (x : Int))
  unfold Prt.cells at h
  rw [List.setIfInBounds_toArray, List.append_assoc, List.set_append_right _ _ (by rw [u32s_length, p.ok.hl]; omega), u32s_length, p.ok.hl, show 8 + j - 8 = j by omega,
    List.set_append_left _ _ (by rw [u32s_length, p.ok.wl]; exact hj), u32s_set, ← List.append_assoc] at h
  exact h
theorem PAt.set_h (p : PAt W g s) (i x : Nat) (hi : i < 8) (hx : x < 4294967296) : PAt (W.setCell ⟨g, i, none⟩ (.int .u32 (x : Int))) g { s with h := s.h.set i x } := by
  refine ⟨⟨by rw [List.length_set]; exact p.ok.hl, p.ok.wl, mem_set_lt p.ok.hb hx, p.ok.wb⟩, ?_⟩
  have h := p.blk.set_ i (.int .u32 (x : Int))
  unfold Prt.cells at h
  rw [List.setIfInBounds_toArray, List.append_assoc, List.set_append_left _ _ (by rw [u32s_length, p.ok.hl]; exact hi), u32s_set, ← List.append_assoc] at h
  exact h
theorem Prt.Ok.w_lt (h : s.Ok) (j : Nat) : s.w.getD j 0 < 4294967296 := by
  rw [List.getD_eq_getElem?_getD]
  rcases Nat.lt_or_ge j s.w.length with hj | hj
  · rw [List.getElem?_eq_getElem hj]; exact h.wb _ (List.getElem_mem hj)
  · rw [List.getElem?_eq_none hj]; decide
theorem Prt.Ok.h_lt (h : s.Ok) (j : Nat) : s.h.getD j 0 < 4294967296 := by
  rw [List.getD_eq_getElem?_getD]
  rcases Nat.lt_or_ge j s.h.length with hj | hj
  · rw [List.getElem?_eq_getElem hj]; exact h.hb _ (List.getElem_mem hj)
  · rw [List.getElem?_eq_none hj]; decide
end
end Go.Proofs.Ytlcimiboalpdkaa
