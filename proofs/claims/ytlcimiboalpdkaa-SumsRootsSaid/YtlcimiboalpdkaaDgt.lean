/- Rows of ints in memory; digits of base 256; the walks over the reference's prime, at and above. -/
import Derived.Test.YtlcimiboalpdkaaBy
namespace Go.Proofs.Ytlcimiboalpdkaa
open Go.RowKit

def i64s (l : List Nat) : List Value := l.map fun x : Nat => Value.int .i64 (x : Int)
theorem i64s_length (l : List Nat) : (i64s l).length = l.length := by simp [i64s]
theorem i64s_append (l m : List Nat) : i64s (l ++ m) = i64s l ++ i64s m := by simp [i64s]
theorem i64s_one (l : List Nat) : ∀ u ∈ i64s l, u.oneCell' = true := by
  intro u hu
  obtain ⟨x, _, rfl⟩ := List.mem_map.1 hu
  rfl
/-- Block g holds these ints from its first cell on. -/
structure I64At (w : World) (g : Nat) (L : List Nat) : Prop where
  lt : g < w.heap.size
  cell : ∀ j, j < L.length → w.cell? ⟨g, j, none⟩ = some (.int .i64 (L.getD j 0 : Nat))
  free : ∀ j, w.frozen? ⟨g, j, none⟩ = false
theorem I64At.grown {w w' : World} {g : Nat} {L : List Nat} {row : Option Nat} (h : I64At w g L) (hg : w.grownBy w' row) (hne : some g ≠ row) : I64At w' g L := by
  have hb := hg.block g h.lt hne
  exact ⟨Nat.lt_of_lt_of_le h.lt hg.size, fun j hj => (World.cell?_of_block (a := ⟨g, j, none⟩) hb).trans (h.cell j hj), fun j => (World.frozen?_of_block (a := ⟨g, j, none⟩) hb).trans (h.free j)⟩
theorem I64At.drewN {w : World} {g : Nat} {L : List Nat} (h : I64At w g L) (n : Nat) : I64At (w.drewN n) g L := ⟨h.lt, h.cell, h.free⟩
theorem I64At.set {w : World} {g : Nat} {L : List Nat} (h : I64At w g L) (j x : Nat) (hj : j < L.length) : I64At (w.setCell ⟨g, j, none⟩ (.int .i64 (x : Nat))) g (L.set j x) := by
  refine ⟨by simp only [World.setCell, Array.size_modify]; exact h.lt, fun i hi => ?_, fun i => by rw [World.frozen?_setCell]; exact h.free i⟩
  rw [List.length_set] at hi
  by_cases e : j = i
  · subst e
    rw [World.cell?_setCell_same _ _ _ (h.cell j hj)]
    simp [List.getD, hj]
  · rw [World.cell?_setCell_other _ _ _ _ (by intro e2; injection e2 with _ e3; exact e e3), h.cell i hi]
    simp [List.getD, List.getElem?_set_ne e]
theorem i64_new (w : World) (L : List Nat) : I64At (w.alloc (.cells (i64s L).toArray 3)) w.heap.size L := by
  have hb : Blk (w.alloc (.cells (i64s L).toArray 3)) w.heap.size 3 (i64s L).toArray := Blk.new w 3 _
  refine ⟨hb.lt, fun j hj => ?_, fun j => hb.frozen j⟩
  rw [hb.cell j]
  simp [i64s, List.getD, hj]
theorem own_open3 {w : World} {base n : Nat} {v : Value} {L : List Nat} (h : w.ownsRow base 3 1 v n (i64s L)) (hn : 0 < n) : ∃ g cap, v = .slice (some ⟨g, 0, none⟩) n cap ∧ base ≤ g ∧ n ≤ cap ∧ cap ≤ maxLen ∧ I64At w g L := by
  have hl := h.1
  rw [i64s_length, Nat.mul_one] at hl
  rcases h.2 with ⟨rfl, h0⟩ | ⟨g, cap, cur, rfl, hb, hh, hc, hm, _⟩
  · omega
  · refine ⟨g, cap, rfl, hb, hc, hm, ⟨(h.lt g rfl).2, fun j hj => ?_, fun j => ?_⟩⟩
    · have := h.cells (g := g) rfl j (.int .i64 (L.getD j 0 : Nat)) (by simp [i64s, List.getD, List.getElem?_eq_getElem hj])
      rwa [show (⟨g, 0, none⟩ : Addr).add j = ⟨g, j, none⟩ by cases j <;> simp [Addr.add]] at this
    · simp [World.frozen?, hh]

/-- The number that the first m digits make. -/
def valTo (L : List Nat) : Nat → Nat
  | 0 => 0
  | m + 1 => valTo L m + L.getD m 0 * 256 ^ m
/-- All below 256. -/
def Dig (L : List Nat) : Prop := ∀ j, L.getD j 0 < 256
theorem valTo_lt {L : List Nat} (h : Dig L) (m : Nat) : valTo L m < 256 ^ m := by
  induction m with
  | zero => exact Nat.zero_lt_one
  | succ m ih =>
    have h1 := h m
    have h2 := Nat.mul_le_mul_right (256 ^ m) (show L.getD m 0 + 1 ≤ 256 by omega)
    rw [Nat.add_mul, Nat.one_mul] at h2
    simp only [valTo]
    rw [Nat.pow_succ, Nat.mul_comm (256 ^ m)]
    omega
theorem getD_out (L : List Nat) (m : Nat) (h : L.length ≤ m) : L.getD m 0 = 0 := by simp [List.getD, List.getElem?_eq_none h]
theorem valTo_more (L : List Nat) (m k : Nat) (h : L.length ≤ m) : valTo L (m + k) = valTo L m := by
  induction k with
  | zero => rfl
  | succ k ih =>
    show valTo L (m + k) + L.getD (m + k) 0 * 256 ^ (m + k) = _
    rw [getD_out L (m + k) (by omega), Nat.zero_mul, ih]; rfl
theorem valTo_top (L : List Nat) (m : Nat) (h : L.length ≤ m) : valTo L m = valTo L L.length := by
  have := valTo_more L L.length (m - L.length) (Nat.le_refl _)
  rwa [show L.length + (m - L.length) = m by omega] at this
theorem valTo_set (L : List Nat) (k v N : Nat) (hk : k < L.length) : k < N → valTo (L.set k v) N + L.getD k 0 * 256 ^ k = valTo L N + v * 256 ^ k := by
  have below : ∀ m, m ≤ k → valTo (L.set k v) m = valTo L m := by
    intro m
    induction m with
    | zero => intro _; rfl
    | succ m ih =>
      intro hm
      simp only [valTo]
      rw [ih (by omega)]
      congr 2
      simp [List.getD, List.getElem?_set_ne (show k ≠ m by omega)]
  intro hN
  obtain ⟨d, rfl⟩ : ∃ d, N = k + 1 + d := ⟨N - k - 1, by omega⟩
  clear hN
  induction d with
  | zero =>
    show valTo (L.set k v) k + (L.set k v).getD k 0 * 256 ^ k + _ = valTo L k + L.getD k 0 * 256 ^ k + _
    rw [below k (Nat.le_refl _), show (L.set k v).getD k 0 = v by simp [List.getD, hk]]
    omega
  | succ d ih =>
    show valTo (L.set k v) (k + 1 + d) + (L.set k v).getD (k + 1 + d) 0 * 256 ^ (k + 1 + d) + _ = valTo L (k + 1 + d) + L.getD (k + 1 + d) 0 * 256 ^ (k + 1 + d) + _
    rw [show (L.set k v).getD (k + 1 + d) 0 = L.getD (k + 1 + d) 0 by simp [List.getD, List.getElem?_set_ne (show k ≠ k + 1 + d by omega)]]
    omega
/-- Where the digits from m on are alike, the numbers differ as their first m digits do. -/
theorem valTo_alike (A B : List Nat) (m d : Nat) (h : ∀ j, m ≤ j → A.getD j 0 = B.getD j 0) : valTo A (m + d) + valTo B m = valTo B (m + d) + valTo A m := by
  induction d with
  | zero => simp only [Nat.add_zero]; omega
  | succ d ih =>
    show valTo A (m + d) + A.getD (m + d) 0 * 256 ^ (m + d) + _ = valTo B (m + d) + B.getD (m + d) 0 * 256 ^ (m + d) + _
    rw [h (m + d) (by omega)]
    omega
theorem above_law {A B : List Nat} (hA : Dig A) (hB : Dig B) (m N : Nat) (hm : m < N) (h : ∀ j, m + 1 ≤ j → A.getD j 0 = B.getD j 0) (hne : A.getD m 0 ≠ B.getD m 0) : decide (B.getD m 0 < A.getD m 0) = decide (valTo B N < valTo A N) := by
  have e := valTo_alike A B (m + 1) (N - (m + 1)) h
  rw [show m + 1 + (N - (m + 1)) = N by omega] at e
  have la := valTo_lt hA m
  have lb := valTo_lt hB m
  have ea : valTo A (m + 1) = valTo A m + A.getD m 0 * 256 ^ m := rfl
  have eb : valTo B (m + 1) = valTo B m + B.getD m 0 * 256 ^ m := rfl
  by_cases hlt : B.getD m 0 < A.getD m 0
  · have h2 := Nat.mul_le_mul_right (256 ^ m) (show B.getD m 0 + 1 ≤ A.getD m 0 from hlt)
    rw [Nat.add_mul, Nat.one_mul] at h2
    rw [decide_eq_true hlt, decide_eq_true (by omega)]
  · have h2 := Nat.mul_le_mul_right (256 ^ m) (show A.getD m 0 + 1 ≤ B.getD m 0 by omega)
    rw [Nat.add_mul, Nat.one_mul] at h2
    rw [decide_eq_false hlt, decide_eq_false (by omega)]

/-! The walks. -/
def primeB (p : Nat) : Bool := (List.range p).all fun d => decide (d < 2) || decide (p % d ≠ 0)
theorem primeB_true {p : Nat} (h : ∀ d, 2 ≤ d → d < p → p % d ≠ 0) : primeB p = true := by
  unfold primeB
  rw [List.all_eq_true]
  intro d hd
  have hd' := List.mem_range.1 hd
  by_cases h2 : d < 2
  · simp [h2]
  · simp [h d (by omega) hd']
theorem primeB_false {p d : Nat} (h2 : 2 ≤ d) (hd : d < p) (h : p % d = 0) : primeB p = false := by
  unfold primeB
  rw [List.all_eq_false]
  refine ⟨d, List.mem_range.2 hd, ?_⟩
  simp [h]
  omega
theorem prime_any (p : Nat) (h2 : 2 ≤ p) (hp : p < 1000) (w : World) : Calls Try.prog 22 #[.int .i64 p] w fun e w' => e = .returned (.bool (primeB p)) ∧ w = w' := by
  go_enter Try.func22, Try.ntmps22
  go_wp2_with fail
  go_loopw [3] (fun i wr => ∃ d : Nat, 2 ≤ d ∧ d ≤ p ∧ i = .int .i64 d ∧ (∀ m, 2 ≤ m → m < d → p % m ≠ 0) ∧ w = wr) (fun i _ => p - (intOf i).toNat)
  case atStart => exact ⟨2, by omega, h2, rfl, fun m h1 h2 => by omega, rfl⟩
  case round =>
    obtain ⟨d, hd2, hdp, rfl, hall, rfl⟩ := hrel
    have HA : Hid (∀ m, 2 ≤ m → m < d → p % m ≠ 0) := hall
    clear hall
    have dz : ¬ (d : Int) = 0 := by omega
    by_cases hlt : d < p
    · obtain ⟨r, hr⟩ : ∃ r, r = p % d := ⟨_, rfl⟩
      have e1 : (p : Int).tmod (d : Int) = (r : Int) := by rw [hr, Int.tmod_eq_emod_of_nonneg (by omega)]; rfl
      have e2 : (p : Int) % (d : Int) = (r : Int) := by rw [hr]; rfl
      have HR := Lib.hid hr
      clear hr
      by_cases h0 : r = 0
      · subst h0
        have HF := Lib.hid (primeB_false hd2 hlt HR.out.symm)
        go_wp2_with fail
        go_ret
        exact ⟨by rw [HF.out]; rfl, rfl⟩
      · go_wp2_with fail
        refine ⟨⟨d + 1, by omega, by omega, rfl, fun m h1 hm => ?_, trivial⟩, by simp only [intOf]; omega⟩
        by_cases e : m = d
        · rw [e, ← HR.out]; exact h0
        · exact HA.out m h1 (by omega)
    · have hdp' : d = p := by omega
      subst hdp'
      have HT := Lib.hid (primeB_true HA.out)
      go_wp2_with fail
      go_ret
      exact ⟨by rw [HT.out]; rfl, rfl⟩

theorem at_any (g n c : Nat) (L : List Nat) (i : Nat) (w : World) (hL : L.length = n) (hn : n < 1000) (hi : i < 1000) (h : I64At w g L) :
    Calls Try.prog 39 #[.slice (some ⟨g, 0, none⟩) n c, .int .i64 i] w fun e w' => e = .returned (.int .i64 (L.getD i 0 : Nat)) ∧ w = w' := by
  by_cases hlt : i < n
  · have hc := h.cell i (by omega)
    generalize L.getD i 0 = x at *
    have i0 : (0 : Int) ≤ (i : Int) := by omega
    have i1 : (i : Int) < (n : Int) := by omega
    clear h hL
    go_enter Try.func39, Try.ntmps39
    go_wp2_with fail
    go_ret
    exact ⟨rfl, rfl⟩
  · rw [getD_out L i (by omega)]
    go_enter Try.func39, Try.ntmps39
    go_wp2_with fail
    go_ret
    exact ⟨rfl, rfl⟩

theorem above_any (g1 n1 c1 g2 n2 c2 N : Nat) (A B : List Nat) (w : World) (hA : A.length = n1) (hB : B.length = n2) (hle : n2 ≤ n1) (h1 : n1 < 1000) (hN : n1 ≤ N) (dA : Dig A) (dB : Dig B) (r1 : I64At w g1 A) (r2 : I64At w g2 B) :
    Calls Try.prog 34 #[.slice (some ⟨g1, 0, none⟩) n1 c1, .slice (some ⟨g2, 0, none⟩) n2 c2] w fun e w' => e = .returned (.bool (decide (valTo B N < valTo A N))) ∧ w = w' := by
  have X := Lib.hid (fun i (hi : i < 1000) v (hv : I64At v g1 A) => at_any g1 n1 c1 A i v hA h1 hi hv)
  have Y := Lib.hid (fun i (hi : i < 1000) v (hv : I64At v g2 B) => at_any g2 n2 c2 B i v hB (by omega) hi hv)
  have R1 := Lib.hid r1
  have R2 := Lib.hid r2
  have HLA := Lib.hid hA
  have HLB := Lib.hid hB
  have DA := Lib.hid dA
  have DB := Lib.hid dB
  clear r1 r2 hA hB dA dB
  go_enter Try.func34, Try.ntmps34
  go_wp2_with fail
  go_loopw [5] (fun i wr => ∃ m : Nat, m ≤ n1 ∧ i = .int .i64 ((m : Int) - 1) ∧ (∀ j, m ≤ j → A.getD j 0 = B.getD j 0) ∧ w = wr) (fun i _ => (intOf i + 1).toNat)
  case atStart => exact ⟨n1, by omega, rfl, fun j hj => by rw [getD_out A j (by rw [HLA.out]; exact hj), getD_out B j (by rw [HLB.out]; omega)], rfl⟩
  case round =>
    obtain ⟨m, hm, rfl, hall, rfl⟩ := hrel
    have HALL := Lib.hid hall
    clear hall
    cases m with
    | zero =>
      have HE : Hid (decide (valTo B N < valTo A N) = false) := by
        show _ = _
        have := valTo_alike A B 0 N HALL.out
        rw [Nat.zero_add] at this
        simp only [valTo] at this
        rw [decide_eq_false (by omega)]
      go_wp2_with fail
      go_ret
      exact ⟨by rw [HE.out]; rfl, rfl⟩
    | succ k =>
      rw [show (((k + 1 : Nat) : Int) - 1) = (k : Int) by omega]
      have XK := Lib.hid (X.out k (by omega))
      have YK := Lib.hid (Y.out k (by omega))
      by_cases he : A.getD k 0 = B.getD k 0
      · have HS : Hid (∀ j, k ≤ j → A.getD j 0 = B.getD j 0) := fun j hj => by
          by_cases e : j = k
          · rw [e]; exact he
          · exact HALL.out j (by omega)
        rw [he] at XK
        generalize B.getD k 0 = b at *
        clear he
        go_wp2_with fail
        refine (XK.out _ R1.out).mono ?_
        rintro e w' ⟨rfl, rfl⟩
        go_wp2_with fail
        refine (YK.out _ R2.out).mono ?_
        rintro e w' ⟨rfl, rfl⟩
        go_wp2_with fail
        exact ⟨⟨k, by omega, rfl, HS.out, trivial⟩, by simp only [intOf]; omega⟩
      · have HE : Hid (decide (B.getD k 0 < A.getD k 0) = decide (valTo B N < valTo A N)) := above_law DA.out DB.out k N (by omega) HALL.out he
        generalize A.getD k 0 = a at *
        generalize B.getD k 0 = b at *
        have he2 : ¬ (a : Int) = (b : Int) := by omega
        go_wp2_with fail
        refine (XK.out _ R1.out).mono ?_
        rintro e w' ⟨rfl, rfl⟩
        go_wp2_with fail
        refine (YK.out _ R2.out).mono ?_
        rintro e w' ⟨rfl, rfl⟩
        go_wp2_with fail
        refine (XK.out _ R1.out).mono ?_
        rintro e w' ⟨rfl, rfl⟩
        go_wp2_with fail
        refine (YK.out _ R2.out).mono ?_
        rintro e w' ⟨rfl, rfl⟩
        go_wp2_with fail
        go_ret
        exact ⟨by rw [← HE.out]; rfl, rfl⟩
end Go.Proofs.Ytlcimiboalpdkaa
