/- Rows of numbers in memory, and the reference's rounds in plain numbers. -/
import Derived.Test.YtlcimiboalpdkaaWords
import Derived.Test.YtlcimiboalpdkaaPrint
namespace Go.Proofs.Ytlcimiboalpdkaa
open Go.RowKit

/-- Block g holds these numbers from its first cell on. -/
structure U64At (w : World) (g : Nat) (L : List Nat) : Prop where
  lt : g < w.heap.size
  cell : ∀ j, j < L.length → w.cell? ⟨g, j, none⟩ = some (.int .u64 (L.getD j 0 : Nat))
  free : ∀ j, w.frozen? ⟨g, j, none⟩ = false
theorem U64At.grown {w w' : World} {g : Nat} {L : List Nat} {row : Option Nat} (h : U64At w g L) (hg : w.grownBy w' row) (hne : some g ≠ row) : U64At w' g L := by
  have hb := hg.block g h.lt hne
  exact ⟨Nat.lt_of_lt_of_le h.lt hg.size, fun j hj => (World.cell?_of_block (a := ⟨g, j, none⟩) hb).trans (h.cell j hj), fun j => (World.frozen?_of_block (a := ⟨g, j, none⟩) hb).trans (h.free j)⟩
theorem U64At.drewN {w : World} {g : Nat} {L : List Nat} (h : U64At w g L) (n : Nat) : U64At (w.drewN n) g L := ⟨h.lt, h.cell, h.free⟩
theorem U64At.set {w : World} {g : Nat} {L : List Nat} (h : U64At w g L) (j x : Nat) (hj : j < L.length) : U64At (w.setCell ⟨g, j, none⟩ (.int .u64 (x : Nat))) g (L.set j x) := by
  refine ⟨by simp only [World.setCell, Array.size_modify]; exact h.lt, fun i hi => ?_, fun i => by rw [World.frozen?_setCell]; exact h.free i⟩
  rw [List.length_set] at hi
  by_cases e : j = i
  · subst e
    rw [World.cell?_setCell_same _ _ _ (h.cell j hj)]
    simp [List.getD, hj]
  · rw [World.cell?_setCell_other _ _ _ _ (by intro e2; injection e2 with _ e3; exact e e3), h.cell i hi]
    simp [List.getD, List.getElem?_set_ne e]
theorem own_open {w : World} {base n : Nat} {v : Value} {L : List Nat} (h : w.ownsRow base 41 1 v n (u64s L)) (hn : 0 < n) : ∃ g cap, v = .slice (some ⟨g, 0, none⟩) n cap ∧ base ≤ g ∧ n = L.length ∧ n ≤ cap ∧ cap ≤ maxLen ∧ U64At w g L := by
  have hl := h.1
  rw [u64s_length, Nat.mul_one] at hl
  rcases h.2 with ⟨rfl, h0⟩ | ⟨g, cap, cur, rfl, hb, hh, hc, hm, _⟩
  · omega
  · refine ⟨g, cap, rfl, hb, hl.symm, hc, hm, ⟨(h.lt g rfl).2, fun j hj => ?_, fun j => ?_⟩⟩
    · have := h.cells (g := g) rfl j (.int .u64 (L.getD j 0 : Nat)) (by simp [u64s, List.getD, List.getElem?_eq_getElem hj])
      rwa [show (⟨g, 0, none⟩ : Addr).add j = ⟨g, j, none⟩ by cases j <;> simp [Addr.add]] at this
    · simp [World.frozen?, hh]

/-- All below 2^32. -/
def Lt32 (L : List Nat) : Prop := ∀ j, L.getD j 0 < 4294967296
theorem Lt32.of_mem {L : List Nat} (h : ∀ x ∈ L, x < 4294967296) : Lt32 L := by
  intro j
  rw [List.getD_eq_getElem?_getD]
  by_cases hj : j < L.length
  · rw [List.getElem?_eq_getElem hj]; exact h _ (List.getElem_mem hj)
  · rw [List.getElem?_eq_none (by omega)]; decide
theorem Lt32.mem {L : List Nat} (h : Lt32 L) : ∀ x ∈ L, x < 4294967296 := by
  intro x hx
  obtain ⟨j, hj, rfl⟩ := List.getElem_of_mem hx
  have := h j
  simpa [List.getD, hj] using this

/-- The sixty-four numbers of a block. -/
def expV (E : List Nat) (t : Nat) : Nat := (E.getD t 0 + spread3 (E.getD (t + 1) 0) 7 18 3 + E.getD (t + 9) 0 + spread3 (E.getD (t + 14) 0) 17 19 10) % 4294967296
def expL (W : List Nat) : Nat → List Nat
  | 0 => W
  | t + 1 => expL W t ++ [expV (expL W t) t]
theorem expL_length (W : List Nat) (t : Nat) : (expL W t).length = W.length + t := by
  induction t with
  | zero => rfl
  | succ t ih => simp only [expL, List.length_append, ih, List.length_singleton]; omega
theorem expL_lt {W : List Nat} (h : Lt32 W) (t : Nat) : Lt32 (expL W t) := by
  induction t with
  | zero => exact h
  | succ t ih =>
    refine Lt32.of_mem fun x hx => ?_
    rcases List.mem_append.1 hx with hx | hx
    · exact ih.mem x hx
    · rw [List.mem_singleton.1 hx]; exact Nat.mod_lt _ (by decide)
def refRounds (E K : List Nat) (r : Regs) : Nat → Regs
  | 0 => r
  | t + 1 => (refRounds E K r t).next (K.getD t 0) (E.getD t 0)
theorem refRounds_ok {E K : List Nat} {r : Regs} (h : r.Ok) (t : Nat) : (refRounds E K r t).Ok := by
  induction t with
  | zero => exact h
  | succ t ih => exact ih.next _ _
def blockW (A : List Nat) (i : Nat) : List Nat := (A.drop (16 * i)).take 16
def refHs (A K H : List Nat) : Nat → List Nat
  | 0 => H
  | i + 1 => addH (refRounds (expL (blockW A i) 48) K (regsOf (refHs A K H i)) 64).list 8 (refHs A K H i)
theorem addH_length (l h : List Nat) (j : Nat) : (addH l j h).length = h.length := by
  induction j with
  | zero => rfl
  | succ j ih => simp only [addH, List.length_set, ih]
theorem refHs_length (A K H : List Nat) (i : Nat) : (refHs A K H i).length = H.length := by
  induction i with
  | zero => rfl
  | succ i ih => simp only [refHs, addH_length, ih]
theorem addH_lt {h : List Nat} (H : Lt32 h) (l : List Nat) (j : Nat) : Lt32 (addH l j h) := by
  induction j with
  | zero => exact H
  | succ j ih =>
    refine Lt32.of_mem fun x hx => ?_
    rcases List.mem_or_eq_of_mem_set hx with hx | hx
    · exact ih.mem x hx
    · rw [hx]; exact Nat.mod_lt _ (by decide)
theorem refHs_lt {H : List Nat} (h : Lt32 H) (A K : List Nat) (i : Nat) : Lt32 (refHs A K H i) := by
  induction i with
  | zero => exact h
  | succ i ih => exact addH_lt ih _ _
theorem blockW_lt {A : List Nat} (h : Lt32 A) (i : Nat) : Lt32 (blockW A i) :=
  Lt32.of_mem fun x hx => h.mem x (List.drop_subset _ _ (List.take_subset _ _ hx))
theorem blockW_length {A : List Nat} {i : Nat} (h : 16 * i + 16 ≤ A.length) : (blockW A i).length = 16 := by simp [blockW]; omega
theorem regsOf_ok {H : List Nat} (h : Lt32 H) : (regsOf H).Ok := ⟨h 0, h 1, h 2, h 3, h 4, h 5, h 6, h 7⟩
theorem regsOf_list {H : List Nat} (h : H.length = 8) : (regsOf H).list = H := by
  match H, h with
  | [a, b, c, d, e, f, g, x], _ => rfl

/-! The reference's choices are sums's. -/
theorem ch_ref {e f g : Nat} (he : e < 4294967296) (hf : f < 4294967296) (hg : g < 4294967296) : (e &&& f) + ((4294967295 - e) &&& g) = chN e f g := by
  have hle1 : e &&& f ≤ e := Nat.and_le_left
  have hle2 : (4294967295 - e) &&& g ≤ 4294967295 - e := Nat.and_le_left
  have hx := BitVec.add_eq_or_of_and_eq_zero (BitVec.ofNat 32 e &&& BitVec.ofNat 32 f) (~~~(BitVec.ofNat 32 e) &&& BitVec.ofNat 32 g) (by
    apply BitVec.eq_of_getElem_eq
    intro i hi
    simp only [BitVec.getElem_and, BitVec.getElem_not, BitVec.getElem_zero]
    cases (BitVec.ofNat 32 e)[i] <;> simp)
  have hy : (BitVec.ofNat 32 e &&& BitVec.ofNat 32 f) ||| (~~~(BitVec.ofNat 32 e) &&& BitVec.ofNat 32 g) = BitVec.ofNat 32 g ^^^ (BitVec.ofNat 32 e &&& (BitVec.ofNat 32 f ^^^ BitVec.ofNat 32 g)) := by
    apply BitVec.eq_of_getElem_eq
    intro i hi
    simp only [BitVec.getElem_and, BitVec.getElem_not, BitVec.getElem_or, BitVec.getElem_xor]
    cases (BitVec.ofNat 32 e)[i] <;> cases (BitVec.ofNat 32 f)[i] <;> cases (BitVec.ofNat 32 g)[i] <;> rfl
  have h1 := congrArg BitVec.toNat (hx.trans hy)
  simp only [BitVec.toNat_add, BitVec.toNat_and, BitVec.toNat_not, BitVec.toNat_xor, BitVec.toNat_ofNat] at h1
  rw [Nat.mod_eq_of_lt (show e < 2 ^ 32 from he), Nat.mod_eq_of_lt (show f < 2 ^ 32 from hf), Nat.mod_eq_of_lt (show g < 2 ^ 32 from hg)] at h1
  rw [show 2 ^ 32 - 1 - e = 4294967295 - e by omega, Nat.mod_eq_of_lt (by omega)] at h1
  exact h1
theorem maj_ref (a b c : Nat) : (a &&& b ||| a &&& c) ||| b &&& c = majN a b c := by
  unfold majN
  apply Nat.eq_of_testBit_eq
  intro i
  simp only [Nat.testBit_or, Nat.testBit_and]
  cases a.testBit i <;> cases b.testBit i <;> cases c.testBit i <;> rfl
end Go.Proofs.Ytlcimiboalpdkaa
